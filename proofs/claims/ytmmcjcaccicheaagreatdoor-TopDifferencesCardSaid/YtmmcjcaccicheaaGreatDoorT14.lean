/- PaMap PaUniq PaCom: parts of the proof of TopDifferences, one text behind the other. No condition. -/
import Derived.Test.YtmmcjcaccicheaaGreatDoorT12
import Derived.Test.YtmmcjcaccicheaaGreatDoorT03
import Derived.Maps.Own
import Derived.Maps.OwnSet
import Derived.Maps.OwnOps
import Derived.Maps.Views
import Derived.Maps.Keyed
import Derived.StringKeys
import Derived.Maps.OwnRows
/- A map from strings to pairs of numbers of one's own, read as a function. No condition. -/
namespace Go.Proofs.YtmmcjcaccicheaaGreatDoor
open Go.RowKit Go.WideMaps Go.Maps

theorem underStr : Tryz.prog.underlying 9 = some .string := by kernel_rfl
theorem underMS : Tryz.prog.underlying 165 = some (.map 9 168) := by kernel_rfl
theorem keyedS : Keyed Tryz.prog 9 := string_keyed underStr
theorem zeroSpot (w : World) : (zeroValue 168).run Tryz.prog w = .ok (.agg #[.int .i64 0, .int .i64 0]) w := by kernel_rfl
def kOf (s : ByteArray) : Lit := .string s.data.toList
theorem key_of {s : ByteArray} (h : s.size ≤ maxLen) : keyOf Tryz.prog 9 (.string s) = some (kOf s) := keyOf_string_mk underStr h
theorem kOf_inj {s t : ByteArray} (h : kOf s = kOf t) : s = t := by
  cases s; cases t
  simp only [kOf, Lit.string.injEq] at h
  rw [Array.toList_inj.1 h]

/-- How a pair reads. -/
def pairD (p : Int × Int) : DataW Unit := .slice [.lit (.int .i64 p.1), .lit (.int .i64 p.2)] []
def pairR (v : Value) : Option (DataW Unit × List MemPlace) :=
  match v with
  | .agg ⟨[.int .i64 x, .int .i64 y]⟩ => some (pairD (x, y), [])
  | _ => none
theorem pairR_mk (x y : Int) : pairR (.agg #[.int .i64 x, .int .i64 y]) = some (pairD (x, y), []) := rfl
theorem pairD_inj {p q : Int × Int} (h : pairD p = pairD q) : p = q := by
  unfold pairD at h
  injection h with h1 _
  simp only [List.cons.injEq, DataW.lit.injEq, Lit.int.injEq, true_and, and_true] at h1
  exact Prod.ext h1.1 h1.2
theorem pairR_inv {v : Value} {p : Int × Int} {ps : List MemPlace} (h : pairR v = some (pairD p, ps)) : v = .agg #[.int .i64 p.1, .int .i64 p.2] := by
  unfold pairR at h
  split at h
  · rename_i x y
    simp only [Option.some.injEq, Prod.mk.injEq] at h
    have := pairD_inj h.1
    subst this; rfl
  · cases h

/-- Block g is a map of at most n pairs, and tells f. -/
def MapP (w : World) (g n : Nat) (f : ByteArray → Int × Int) : Prop :=
  ∃ D : DataW Unit, w.ownsMap Tryz.prog 9 pairR g n D ∧ ∀ s, D.atKey (kOf s) (pairD (0, 0)) = pairD (f s)
theorem MapP.new (w : World) {g : Nat} (hg : g = w.heap.size) : MapP (w.alloc (.map #[] 0)) g 0 (fun _ => (0, 0)) := by
  subst hg; exact ⟨_, World.ownsMap_made _ _ _ _, fun s => by rfl⟩
theorem MapP.lv {S : Nat → Prop} {w w' : World} {g n : Nat} {f : ByteArray → Int × Int} (h : MapP w g n f) (k : Lv S w w') (hS : ¬ S g) : MapP w' g n f := by
  obtain ⟨D, ⟨es, clock, hb, r⟩, h2⟩ := h
  exact ⟨D, ⟨es, clock, (k.2 g (Array.getElem?_eq_some_iff.1 hb).1 hS).trans hb, r⟩, h2⟩
theorem MapP.ext {w w' : World} {g n : Nat} {f : ByteArray → Int × Int} (h : MapP w g n f) (e : Ext w w') : MapP w' g n f := h.lv (Lv.of_ext (S := fun _ => False) e) id
theorem MapP.look {w : World} {g n : Nat} {f : ByteArray → Int × Int} (h : MapP w g n f) {s : ByteArray} (hs : s.size ≤ maxLen) : (Instr.lookup 165 (.map (some g)) (.string s) false).run Tryz.prog w = .ok (.agg #[.int .i64 (f s).1, .int .i64 (f s).2]) w := by
  obtain ⟨D, hD, hf⟩ := h
  obtain ⟨v, ps, hrun, hv⟩ := hD.lookup keyedS underMS (zeroSpot w) (pairR_mk 0 0) (key_of hs)
  rw [hf s] at hv
  rw [hrun, pairR_inv hv]

/-- 'm[s] = spot{x, y}' at the operation. -/
theorem wpList_mapP_put (w : World) {ops : Array Oper} {rest : List Oper} {o : Oper} {a : Act} {Q : Exit → Act → World → Prop}
    (hg : o.guard = none) (m x v : Operand) (hop : o.op = Op.mapUpdate 165 m x v) (b n : Nat) (f : ByteArray → Int × Int)
    (hm : a.eval m = .map (some b)) (hown : MapP w b n f) (hn : n < maxLen) (s : ByteArray) (c d : Int) (hx : a.eval x = .string s) (hv : a.eval v = .agg #[.int .i64 c, .int .i64 d]) (hs : s.size ≤ maxLen)
    (hK : ∀ w', MapP w' b (n + 1) (fun t => if t = s then (c, d) else f t) → w.grownBy w' (some b) → wpList Tryz.prog ops Q rest (a.put o.dst undef) w') :
    wpList Tryz.prog ops Q (o :: rest) a w := by
  obtain ⟨D, hD, hf⟩ := hown
  refine wpList_mapUpdate_own w hg m x v 165 hop 9 168 keyedS underMS _ b n D hm hD hn _ _ _ hx hv (key_of hs) _ [] (pairR_mk c d) (fun w' h1 h2 => hK w' ⟨_, h1, fun t => ?_⟩ h2)
  dsimp only
  by_cases h : t = s
  · subst h; rw [if_pos rfl]; exact atKey_put_same (k := kOf t) hD.isMap (by simp [kOf, WideAt.IsKeyLit]) _ _
  · rw [if_neg h, atKey_put_other (fun e => h (kOf_inj e))]; exact hf t
end Go.Proofs.YtmmcjcaccicheaaGreatDoor
/- Contracts: spots, Unique. -/
namespace Go.Proofs.YtmmcjcaccicheaaGreatDoor
open Go.RowKit Go.WideMaps Go.Maps

set_option maxRecDepth 100000 in
theorem field0 (x y : Value) (w : World) : (Instr.field 168 (.agg #[x, y]) 0).run Tryz.prog w = .ok x w := by rfl
set_option maxRecDepth 100000 in
theorem field1 (x y : Value) (w : World) : (Instr.field 168 (.agg #[x, y]) 1).run Tryz.prog w = .ok y w := by rfl

set_option maxHeartbeats 4000000 in
theorem spots_any (A : Option Addr) (n c : Nat) (l : Lns) (w : World) (ha : Strs w A n l) (hn : n ≤ 1000) :
    Calls Tryz.prog 106 #[.slice A n c] w fun e w' => e = .returned (.map (some w.heap.size)) ∧ MapP w' w.heap.size n (fun s => ((cnt l s : Int), (whV l s : Int))) ∧ Ext w w' := by
  obtain rfl : l.length = n := ha.1
  have HA := Lib.hid ha; clear ha
  have hmm := @run_makeMap Tryz.prog
  have hf0 := field0
  go_enter Tryz.func106, Tryz.ntmps106
  go_wp2_with fail
  go_loopw [9] (fun v9 wr => ∃ k : Nat, k ≤ l.length ∧ v9 = .int .i64 k ∧ MapP wr w.heap.size k (fun s => ((cnt (l.take k) s : Int), (whP l s k : Int))) ∧ Ext w wr ∧ w.heap.size + 1 ≤ wr.heap.size) (fun v9 _ => l.length - (intOf v9).toNat)
  case atStart => exact ⟨0, Nat.zero_le _, rfl, MapP.new w rfl, (Ext.refl w).alloc _, by simp⟩
  case round =>
    obtain ⟨k, hk, rfl, hm, hE, hsz⟩ := hrel
    have HM := Lib.hid hm; have HE := Lib.hid hE; clear hm hE
    by_cases hlt : k < l.length
    case neg =>
      obtain rfl : k = l.length := by omega
      go_wp2_with fail
      go_ret
      refine ⟨rfl, ?_, HE.out⟩
      have := HM.out
      rw [List.take_of_length_le (Nat.le_refl _)] at this
      exact this
    case pos =>
      obtain ⟨ba, oa, s, hA, hba, hs, hs2, hc1⟩ := (HA.out.ext HE.out).get hlt
      subst hA
      have hrun := HM.out.look (s := s) (by unfold Reach at hs2; unfold maxLen; omega)
      obtain ⟨z, hz⟩ : ∃ z, cnt (l.take k) s = z := ⟨_, rfl⟩
      obtain ⟨y, hy⟩ : ∃ y, whP l s k = y := ⟨_, rfl⟩
      have hz2 : z ≤ k := by have := cnt_le (l.take k) s; rw [List.length_take] at this; omega
      dsimp only at hrun
      rw [hz, hy] at hrun
      have HS := Lib.hid hs; have HZ := Lib.hid hz; have HY := Lib.hid hy; clear hs hz hy
      go_wp2_with (at_mapUpdate; refine wpList_mapP_put _ rfl _ _ _ rfl w.heap.size k _ rfl HM.out (by unfold maxLen; omega) s (z + 1) k rfl (by simp [Act.eval]) (by unfold Reach at hs2; unfold maxLen; omega) ?_; intro w2 hm2 hg2)
      go_roundw
      case rel =>
        refine ⟨k + 1, by omega, by go_num, ?_, Below.grown HE.out hg2 (by omega) (fun j hj => by cases hj; omega), Nat.le_trans hsz hg2.size⟩
        have he : (fun t => if t = s then ((z : Int) + 1, (k : Int)) else (((cnt (l.take k) t : Nat) : Int), ((whP l t k : Nat) : Int))) = fun t => (((cnt (l.take (k + 1)) t : Nat) : Int), ((whP l t (k + 1) : Nat) : Int)) := by
          funext t
          rw [cnt_take HS.out, whP_succ, HS.out]
          by_cases h : t = s
          · subst h; rw [if_pos rfl, if_pos rfl, if_pos rfl, HZ.out]; rfl
          · rw [if_neg h, if_neg (fun e => h e.symm), if_neg (fun e => h (Option.some.inj e).symm)]; rfl
        rw [← he]; exact hm2
      case measure => simp [intOf]; omega

theorem whP_lt (b : Lns) (s : ByteArray) : ∀ n, 0 < n → whP b s n < n
  | 0, h => by omega
  | n + 1, _ => by
    rw [whP_succ]
    split
    · omega
    · rcases Nat.eq_zero_or_pos n with rfl | h0
      · simp [whP]
      · have := whP_lt b s n h0; omega
theorem uniq_bnd (a b : Lns) (L : Nat) (ha : a.length ≤ L) (hb : b.length ≤ L) : ∀ k, k ≤ a.length → Bnd L (uniqP a b k)
  | 0, _ => by intro m hm; simp [uniqP] at hm
  | k + 1, hk => by
    obtain ⟨s, hs⟩ : ∃ s, a[k]? = some s := ⟨a[k], List.getElem?_eq_getElem (by omega)⟩
    rw [uniqP_succ b hs]
    have ih := uniq_bnd a b L ha hb k (by omega)
    by_cases h : cnt a s = 1 ∧ cnt b s = 1
    · rw [if_pos h]
      intro m hm
      rcases List.mem_append.1 hm with hm | hm
      · exact ih m hm
      · simp only [List.mem_singleton] at hm
        subst hm
        have hw : whV b s < b.length := whP_lt b s _ (by have := cnt_le b s; omega)
        dsimp only; omega
    · rw [if_neg h]; exact ih

set_option maxRecDepth 100000 in
set_option maxHeartbeats 8000000 in
theorem unique_any (A B : Option Addr) (n c m d : Nat) (a b : Lns) (w : World) (ha : Strs w A n a) (hb : Strs w B m b) (hn : n ≤ 500) (hm : m ≤ 500) :
    Calls Tryz.prog 93 #[.slice A n c, .slice B m d] w fun e w' => ∃ v, e = .returned v ∧ w'.ownsRow w.heap.size 104 3 v (uniqV a b).length ((uniqV a b).flatMap Mt.cells) ∧ Ext w w' := by
  obtain rfl : a.length = n := ha.1
  obtain rfl : b.length = m := hb.1
  have HA := Lib.hid ha; have HB := Lib.hid hb; clear ha hb
  obtain ⟨inf, i1, i2, i3, i4⟩ := info_of infoM'
  have I1 := Lib.hid i1; have I2 := Lib.hid i2; have I3 := Lib.hid i3; have I4 := Lib.hid i4; clear i1 i2 i3 i4
  have hf0 := field0
  have hf1 := field1
  go_enter Tryz.func93, Tryz.ntmps93
  go_wp2_with fail
  refine (spots_any A a.length c a _ HA.out (by omega)).mono ?_
  rintro e w1 ⟨rfl, hma, hE⟩
  have HMA := Lib.hid hma; have HE := Lib.hid hE; clear hma hE
  go_wp2_with fail
  refine (spots_any B b.length d b _ (HB.out.ext HE.out) (by omega)).mono ?_
  rintro e w2 ⟨rfl, hmb, hE⟩
  have HMA2 := Lib.hid (HMA.out.ext hE); have HMB := Lib.hid hmb; have HE2 := Lib.hid (HE.out.trans hE); clear hmb hE HMA
  have hgb : w1.heap.size < w2.heap.size := by
    obtain ⟨D, ⟨es, clock, hb, _⟩, _⟩ := HMB.out
    exact (Array.getElem?_eq_some_iff.1 hb).1
  have hga : w.heap.size < w2.heap.size := by
    obtain ⟨D, ⟨es, clock, hb, _⟩, _⟩ := HMA2.out
    exact (Array.getElem?_eq_some_iff.1 hb).1
  go_wp2_with fail
  go_loopw [7, 16] (fun v7 v16 wr => ∃ k : Nat, k ≤ a.length ∧ v16 = .int .i64 k ∧ wr.ownsRow w2.heap.size 104 3 v7 (uniqP a b k).length ((uniqP a b k).flatMap Mt.cells) ∧ Ext w2 wr) (fun _ v16 _ => a.length - (intOf v16).toNat)
  case atStart => exact ⟨0, Nat.zero_le _, rfl, World.ownsRow_nil _ _ _ _, Ext.refl _⟩
  case round =>
    obtain ⟨k, hk, rfl, ho, hE⟩ := hrel
    have HO := Lib.hid ho; have HEr := Lib.hid hE; clear ho hE
    by_cases hlt : k < a.length
    case neg =>
      obtain rfl : k = a.length := by omega
      go_wp2_with fail
      go_ret
      exact ⟨_, rfl, own_base HO.out HE2.out.size, HE2.out.trans HEr.out⟩
    case pos =>
      obtain ⟨ba, oa, s, hA, hba, hs, hs2, hc1⟩ := (HA.out.ext (HE2.out.trans HEr.out)).get hlt
      subst hA
      have hrun1 := (HMA2.out.ext HEr.out).look (s := s) (by unfold Reach at hs2; unfold maxLen; omega)
      have hrun2 := (HMB.out.ext HEr.out).look (s := s) (by unfold Reach at hs2; unfold maxLen; omega)
      have hsn := uniqP_succ b hs
      have hlen := uniqP_len a b k
      obtain ⟨z, hz⟩ : ∃ z, cnt a s = z := ⟨_, rfl⟩
      obtain ⟨y, hy⟩ : ∃ y, cnt b s = y := ⟨_, rfl⟩
      obtain ⟨x, hx⟩ : ∃ x, whV b s = x := ⟨_, rfl⟩
      obtain ⟨x', hx'⟩ : ∃ x, whV a s = x := ⟨_, rfl⟩
      dsimp only at hrun1 hrun2
      rw [hz, hx'] at hrun1
      rw [hy, hx] at hrun2
      rw [hz, hy, hx] at hsn
      have HSN := Lib.hid hsn; clear hsn hz hy hx hx' hs
      by_cases hz1 : z = 1
      case neg =>
        have q1 : ((z : Int) == 1) = false := by simp; omega
        have hs3 := HSN.out; rw [if_neg (fun h => hz1 h.1)] at hs3
        have HS3 := Lib.hid hs3; clear hs3 hz1
        go_wp2_with fail
        go_roundw
        case rel => exact ⟨k + 1, by omega, by go_num, by rw [HS3.out]; exact HO.out, HEr.out⟩
        case measure => simp [intOf]; omega
      subst hz1
      by_cases hy1 : y = 1
      case neg =>
        have q1 : ((y : Int) == 1) = false := by simp; omega
        have hs3 := HSN.out; rw [if_neg (fun h => hy1 h.2)] at hs3
        have HS3 := Lib.hid hs3; clear hs3 hy1
        go_wp2_with fail
        go_roundw
        case rel => exact ⟨k + 1, by omega, by go_num, by rw [HS3.out]; exact HO.out, HEr.out⟩
        case measure => simp [intOf]; omega
      subst hy1
      have hs3 := HSN.out; rw [if_pos ⟨rfl, rfl⟩] at hs3
      have HS3 := Lib.hid hs3; clear hs3
      go_wp2_with (at_builtin; refine wpList_append_size2 rfl (.tmp 33) (.tmp 40) 66 rfl w2.heap.size 104 inf _ 3 24 underM' I1.out I2.out I3.out I4.out rfl (by decide) u7 (uniqP a b k).length _ (some ⟨wr.heap.size, 0, none⟩) 1 1 (Mt.cells ⟨k, x, 1⟩) rfl (by simp [Act.eval]) rfl (by simp [Mt.cells, Value.oneCell']) (by simp only [maxLen]; omega) (by omega) (own_stab3 ((Ext.refl wr).alloc _) HO.out) (Cells.new wr _ _ rfl) (by have := HEr.out.size; simp; omega) ?_; intro v' w3 hown hg hbk)
      go_roundw
      case rel =>
        have hx : Ext wr (wr.alloc (.cells (Mt.cells ⟨k, x, 1⟩).toArray 104)) := (Ext.refl wr).alloc _
        refine ⟨k + 1, by omega, by go_num, ?_, (HEr.out.trans hx).own3 (own_stab3 hx HO.out) hg⟩
        rw [HS3.out, List.length_append, List.flatMap_append]
        simpa using hown
      case measure => simp [intOf]; omega
end Go.Proofs.YtmmcjcaccicheaaGreatDoor
/- Contract: lines.Common. -/
namespace Go.Proofs.YtmmcjcaccicheaaGreatDoor
open Go.RowKit

theorem ne_list {s t : ByteArray} (h : s ≠ t) : (s.toList == t.toList) = false := by
  cases e : (s.toList == t.toList) with
  | false => rfl
  | true => exact absurd (toList_inj (by simpa using e)) h
theorem pre_stop {a b : Lns} {k : Nat} (h : folV a b k 0 = folV a b 0 0) (hs : mtB a b (k : Nat) (k : Nat) = false) : preN a b = k := by
  unfold preN
  rw [← h, folV_stop (by rw [Int.sub_zero]; exact hs)]; simp
theorem pre_step {a b : Lns} {k : Nat} (h : folV a b k 0 = folV a b 0 0) (hs : mtB a b (k : Nat) (k : Nat) = true) : folV a b ((k + 1 : Nat) : Int) 0 = folV a b 0 0 := by
  rw [← h, folV_step (x := (k : Int)) (by rw [Int.sub_zero]; exact hs)]; rfl
theorem suf_step {a b : Lns} {f m : Nat} (h : sufF a b (f + 1) m = sufN a b) (hs : mtB a b ((a.length : Int) - 1 - m) ((b.length : Int) - 1 - m) = true) : sufF a b f (m + 1) = sufN a b := by
  rw [← h, sufF, if_pos hs]
theorem suf_stop {a b : Lns} {f m : Nat} (h : sufF a b f m = sufN a b) (hs : f = 0 ∨ mtB a b ((a.length : Int) - 1 - m) ((b.length : Int) - 1 - m) = false) : sufN a b = m := by
  rw [← h]
  cases f with
  | zero => rfl
  | succ f =>
    rw [sufF, if_neg (by rcases hs with h | h; omega; rw [h]; simp)]

set_option maxRecDepth 100000 in
set_option maxHeartbeats 8000000 in
theorem common_any (A B : Option Addr) (n c m d : Nat) (a b : Lns) (w : World) (ha : Strs w A n a) (hb : Strs w B m b) (hn : n ≤ 1000) (hm : m ≤ 1000) :
    Calls Tryz.prog 71 #[.slice A n c, .slice B m d] w fun e w' => e = .returned (.tuple #[.int .i64 (preN a b), .int .i64 (sufN a b)]) ∧ Ext w w' := by
  obtain rfl : a.length = n := ha.1
  obtain rfl : b.length = m := hb.1
  have HA := Lib.hid ha; have HB := Lib.hid hb; clear ha hb
  by_cases hab : b.length < a.length
  · go_enter Tryz.func71, Tryz.ntmps71
    go_wp2_with fail
    go_loopw [7] (fun v7 wr => ∃ k : Nat, k ≤ b.length ∧ v7 = .int .i64 k ∧ folV a b k 0 = folV a b 0 0 ∧ Ext w wr) (fun v7 _ => b.length - (intOf v7).toNat)
    case atStart => exact ⟨0, Nat.zero_le _, rfl, rfl, Ext.refl _⟩
    case round =>
      obtain ⟨k, hk, rfl, hf, hE⟩ := hrel
      have HF := Lib.hid hf; have HE := Lib.hid hE; clear hf hE
      by_cases hlt : k < b.length
      case pos =>
        obtain ⟨ba, oa, s, hA, hba, hs, hs2, hc1⟩ := (HA.out.ext HE.out).get (k := k) (by omega)
        obtain ⟨bb, ob, t, hB, hbb, ht, ht2, hc2⟩ := (HB.out.ext HE.out).get (k := k) (by omega)
        subst hA; subst hB
        have hmt := mtB_at hs ht
        have HMT := Lib.hid hmt; clear hmt hs ht
        have q1 : decide (k < b.length) = true := yd hlt
        have l1 : k < a.length := by omega
        have l2 : k < b.length := by omega
        by_cases hst : s = t
        · subst hst
          have hst2 := pre_step HF.out (by rw [HMT.out]; simp)
          have HST := Lib.hid hst2; clear hst2
          go_wp2_with fail
          go_quiet (fail)
          go_wp2_with fail
          go_roundw
          case rel => exact ⟨k + 1, by omega, by go_num, HST.out, HE.out.drewN _⟩
          case measure => simp [intOf]; omega
        have hne := ne_list hst
        have hp := pre_stop HF.out (by rw [HMT.out]; simpa using hst)
        have HP := Lib.hid hp; clear hp hst
        go_wp2_with fail
        go_quiet (fail)
        go_wp2_with fail
        clear q1 hc1 hc2 hne hba hbb hs2 ht2 l1 l2
        have HE9 := Lib.hid (HE.out.drewN nq)
        obtain ⟨w5, hw5⟩ : ∃ w5, w5 = wr.drewN nq := ⟨_, rfl⟩
        rw [← hw5] at HE9
        rw [← hw5]
        clear hw5 HE HF
        go_loopw [8] (fun v8 wr => ∃ j : Nat, k + j ≤ b.length ∧ v8 = .int .i64 j ∧ sufF a b (b.length - k - j) j = sufN a b ∧ Ext w wr) (fun v8 _ => b.length - (intOf v8).toNat)
        case atStart => exact ⟨0, by omega, rfl, by rw [sufN, HP.out]; congr 1; omega, HE9.out⟩
        clear HE9
        case round =>
          obtain ⟨j, hj, rfl, hf, hE⟩ := hrel
          have HF := Lib.hid hf; have HE := Lib.hid hE; clear hf hE
          by_cases hlt2 : k + j < b.length
          case pos =>
            obtain ⟨x, hx⟩ : ∃ x, a.length = x + 1 + j := ⟨a.length - 1 - j, by omega⟩
            obtain ⟨y, hy⟩ : ∃ y, b.length = y + 1 + j := ⟨b.length - 1 - j, by omega⟩
            obtain ⟨ba, oa, s, hA, hba, hs, hs2, hc1⟩ := (HA.out.ext HE.out).get (k := x) (by omega)
            first | subst hA | cases hA
            obtain ⟨bb, ob, t, hB, hbb, ht, ht2, hc2⟩ := (HB.out.ext HE.out).get (k := y) (by omega)
            first | subst hB | cases hB
            have hmt : mtB a b ((a.length : Int) - 1 - j) ((b.length : Int) - 1 - j) = decide (s = t) := by
              rw [show (a.length : Int) - 1 - j = (x : Nat) by omega, show (b.length : Int) - 1 - j = (y : Nat) by omega]; exact mtB_at hs ht
            have HMT := Lib.hid hmt; clear hmt hs ht
            have q1 : decide ((k : Int) + j < (b.length : Nat)) = true := yd (by omega)
            have e0 : IntKind.i64.wrap ((k : Int) + j) = (k : Int) + j := wrap_in (by omega) (by omega)
            have e1 : IntKind.i64.wrap ((a.length : Int) - 1 - j) = (x : Int) := by rw [wrap_in (by omega) (by omega)]; omega
            have e2 : IntKind.i64.wrap ((b.length : Int) - 1 - j) = (y : Int) := by rw [wrap_in (by omega) (by omega)]; omega
            have l1 : x < a.length := by omega
            have l2 : y < b.length := by omega
            have HX := Lib.hid hx; have HY := Lib.hid hy; clear hx hy
            by_cases hst : s = t
            · subst hst
              have hst2 := suf_step (f := b.length - k - (j + 1)) (by rw [show b.length - k - (j + 1) + 1 = b.length - k - j by omega]; exact HF.out) (by rw [HMT.out]; simp)
              have HST := Lib.hid hst2; clear hst2
              go_wp2_with fail
              go_quiet (fail)
              go_wp2_with fail
              go_roundw
              case rel => exact ⟨j + 1, by omega, by go_num, HST.out, HE.out.drewN _⟩
              case measure => simp [intOf]; omega
            have hne := ne_list hst
            have hp := suf_stop HF.out (.inr (by rw [HMT.out]; simpa using hst))
            have HP2 := Lib.hid hp; clear hp hst
            go_wp2_with fail
            go_quiet (fail)
            go_wp2_with fail
            refine bodyPost_ret (v := .tuple #[.int .i64 (k : Int), .int .i64 (j : Int)]) (by simp [results, Tryz.results71, go_sem]) rfl ⟨by rw [HP.out, HP2.out], HE.out.drewN _⟩
          case neg =>
            have hp := suf_stop HF.out (.inl (by omega))
            have HP2 := Lib.hid hp; clear hp
            have q1 : decide ((k : Int) + j < (b.length : Nat)) = false := nd (by omega)
            have e0 : IntKind.i64.wrap ((k : Int) + j) = (k : Int) + j := wrap_in (by omega) (by omega)
            go_wp2_with fail
            go_quiet (fail)
            go_wp2_with fail
            refine bodyPost_ret (v := .tuple #[.int .i64 (k : Int), .int .i64 (j : Int)]) (by simp [results, Tryz.results71, go_sem]) rfl ⟨by rw [HP.out, HP2.out], HE.out.drewN _⟩
      case neg =>
        obtain rfl : k = b.length := by omega
        have hp := pre_stop HF.out (mtB_out (by omega))
        have HP := Lib.hid hp; clear hp
        have q1 : decide (b.length < b.length) = false := nd hlt
        go_wp2_with fail
        go_quiet (fail)
        go_wp2_with fail
        clear q1
        have HE9 := Lib.hid (HE.out.drewN nq)
        obtain ⟨w5, hw5⟩ : ∃ w5, w5 = wr.drewN nq := ⟨_, rfl⟩
        rw [← hw5] at HE9
        rw [← hw5]
        clear hw5 HE HF
        go_loopw [8] (fun v8 wr => ∃ j : Nat, b.length + j ≤ b.length ∧ v8 = .int .i64 j ∧ sufF a b (b.length - b.length - j) j = sufN a b ∧ Ext w wr) (fun v8 _ => b.length - (intOf v8).toNat)
        case atStart => exact ⟨0, by omega, rfl, by rw [sufN, HP.out]; congr 1; omega, HE9.out⟩
        clear HE9
        case round =>
          obtain ⟨j, hj, rfl, hf, hE⟩ := hrel
          have HF := Lib.hid hf; have HE := Lib.hid hE; clear hf hE
          by_cases hlt2 : b.length + j < b.length
          case pos =>
            obtain ⟨x, hx⟩ : ∃ x, a.length = x + 1 + j := ⟨a.length - 1 - j, by omega⟩
            obtain ⟨y, hy⟩ : ∃ y, b.length = y + 1 + j := ⟨b.length - 1 - j, by omega⟩
            obtain ⟨ba, oa, s, hA, hba, hs, hs2, hc1⟩ := (HA.out.ext HE.out).get (k := x) (by omega)
            first | subst hA | cases hA
            obtain ⟨bb, ob, t, hB, hbb, ht, ht2, hc2⟩ := (HB.out.ext HE.out).get (k := y) (by omega)
            first | subst hB | cases hB
            have hmt : mtB a b ((a.length : Int) - 1 - j) ((b.length : Int) - 1 - j) = decide (s = t) := by
              rw [show (a.length : Int) - 1 - j = (x : Nat) by omega, show (b.length : Int) - 1 - j = (y : Nat) by omega]; exact mtB_at hs ht
            have HMT := Lib.hid hmt; clear hmt hs ht
            have q1 : decide ((b.length : Int) + j < (b.length : Nat)) = true := yd (by omega)
            have e0 : IntKind.i64.wrap ((b.length : Int) + j) = (b.length : Int) + j := wrap_in (by omega) (by omega)
            have e1 : IntKind.i64.wrap ((a.length : Int) - 1 - j) = (x : Int) := by rw [wrap_in (by omega) (by omega)]; omega
            have e2 : IntKind.i64.wrap ((b.length : Int) - 1 - j) = (y : Int) := by rw [wrap_in (by omega) (by omega)]; omega
            have l1 : x < a.length := by omega
            have l2 : y < b.length := by omega
            have HX := Lib.hid hx; have HY := Lib.hid hy; clear hx hy
            by_cases hst : s = t
            · subst hst
              have hst2 := suf_step (f := b.length - b.length - (j + 1)) (by rw [show b.length - b.length - (j + 1) + 1 = b.length - b.length - j by omega]; exact HF.out) (by rw [HMT.out]; simp)
              have HST := Lib.hid hst2; clear hst2
              go_wp2_with fail
              go_quiet (fail)
              go_wp2_with fail
              go_roundw
              case rel => exact ⟨j + 1, by omega, by go_num, HST.out, HE.out.drewN _⟩
              case measure => simp [intOf]; omega
            have hne := ne_list hst
            have hp := suf_stop HF.out (.inr (by rw [HMT.out]; simpa using hst))
            have HP2 := Lib.hid hp; clear hp hst
            go_wp2_with fail
            go_quiet (fail)
            go_wp2_with fail
            refine bodyPost_ret (v := .tuple #[.int .i64 (b.length : Int), .int .i64 (j : Int)]) (by simp [results, Tryz.results71, go_sem]) rfl ⟨by rw [HP.out, HP2.out], HE.out.drewN _⟩
          case neg =>
            have hp := suf_stop HF.out (.inl (by omega))
            have HP2 := Lib.hid hp; clear hp
            have q1 : decide ((b.length : Int) + j < (b.length : Nat)) = false := nd (by omega)
            have e0 : IntKind.i64.wrap ((b.length : Int) + j) = (b.length : Int) + j := wrap_in (by omega) (by omega)
            go_wp2_with fail
            go_quiet (fail)
            go_wp2_with fail
            refine bodyPost_ret (v := .tuple #[.int .i64 (b.length : Int), .int .i64 (j : Int)]) (by simp [results, Tryz.results71, go_sem]) rfl ⟨by rw [HP.out, HP2.out], HE.out.drewN _⟩
  · go_enter Tryz.func71, Tryz.ntmps71
    go_wp2_with fail
    go_loopw [7] (fun v7 wr => ∃ k : Nat, k ≤ a.length ∧ v7 = .int .i64 k ∧ folV a b k 0 = folV a b 0 0 ∧ Ext w wr) (fun v7 _ => a.length - (intOf v7).toNat)
    case atStart => exact ⟨0, Nat.zero_le _, rfl, rfl, Ext.refl _⟩
    case round =>
      obtain ⟨k, hk, rfl, hf, hE⟩ := hrel
      have HF := Lib.hid hf; have HE := Lib.hid hE; clear hf hE
      by_cases hlt : k < a.length
      case pos =>
        obtain ⟨ba, oa, s, hA, hba, hs, hs2, hc1⟩ := (HA.out.ext HE.out).get (k := k) (by omega)
        obtain ⟨bb, ob, t, hB, hbb, ht, ht2, hc2⟩ := (HB.out.ext HE.out).get (k := k) (by omega)
        subst hA; subst hB
        have hmt := mtB_at hs ht
        have HMT := Lib.hid hmt; clear hmt hs ht
        have q1 : decide (k < a.length) = true := yd hlt
        have l1 : k < a.length := by omega
        have l2 : k < b.length := by omega
        by_cases hst : s = t
        · subst hst
          have hst2 := pre_step HF.out (by rw [HMT.out]; simp)
          have HST := Lib.hid hst2; clear hst2
          go_wp2_with fail
          go_quiet (fail)
          go_wp2_with fail
          go_roundw
          case rel => exact ⟨k + 1, by omega, by go_num, HST.out, HE.out.drewN _⟩
          case measure => simp [intOf]; omega
        have hne := ne_list hst
        have hp := pre_stop HF.out (by rw [HMT.out]; simpa using hst)
        have HP := Lib.hid hp; clear hp hst
        go_wp2_with fail
        go_quiet (fail)
        go_wp2_with fail
        clear q1 hc1 hc2 hne hba hbb hs2 ht2 l1 l2
        have HE9 := Lib.hid (HE.out.drewN nq)
        obtain ⟨w5, hw5⟩ : ∃ w5, w5 = wr.drewN nq := ⟨_, rfl⟩
        rw [← hw5] at HE9
        rw [← hw5]
        clear hw5 HE HF
        go_loopw [8] (fun v8 wr => ∃ j : Nat, k + j ≤ a.length ∧ v8 = .int .i64 j ∧ sufF a b (a.length - k - j) j = sufN a b ∧ Ext w wr) (fun v8 _ => a.length - (intOf v8).toNat)
        case atStart => exact ⟨0, by omega, rfl, by rw [sufN, HP.out]; congr 1; omega, HE9.out⟩
        clear HE9
        case round =>
          obtain ⟨j, hj, rfl, hf, hE⟩ := hrel
          have HF := Lib.hid hf; have HE := Lib.hid hE; clear hf hE
          by_cases hlt2 : k + j < a.length
          case pos =>
            obtain ⟨x, hx⟩ : ∃ x, a.length = x + 1 + j := ⟨a.length - 1 - j, by omega⟩
            obtain ⟨y, hy⟩ : ∃ y, b.length = y + 1 + j := ⟨b.length - 1 - j, by omega⟩
            obtain ⟨ba, oa, s, hA, hba, hs, hs2, hc1⟩ := (HA.out.ext HE.out).get (k := x) (by omega)
            first | subst hA | cases hA
            obtain ⟨bb, ob, t, hB, hbb, ht, ht2, hc2⟩ := (HB.out.ext HE.out).get (k := y) (by omega)
            first | subst hB | cases hB
            have hmt : mtB a b ((a.length : Int) - 1 - j) ((b.length : Int) - 1 - j) = decide (s = t) := by
              rw [show (a.length : Int) - 1 - j = (x : Nat) by omega, show (b.length : Int) - 1 - j = (y : Nat) by omega]; exact mtB_at hs ht
            have HMT := Lib.hid hmt; clear hmt hs ht
            have q1 : decide ((k : Int) + j < (a.length : Nat)) = true := yd (by omega)
            have e0 : IntKind.i64.wrap ((k : Int) + j) = (k : Int) + j := wrap_in (by omega) (by omega)
            have e1 : IntKind.i64.wrap ((a.length : Int) - 1 - j) = (x : Int) := by rw [wrap_in (by omega) (by omega)]; omega
            have e2 : IntKind.i64.wrap ((b.length : Int) - 1 - j) = (y : Int) := by rw [wrap_in (by omega) (by omega)]; omega
            have l1 : x < a.length := by omega
            have l2 : y < b.length := by omega
            have HX := Lib.hid hx; have HY := Lib.hid hy; clear hx hy
            by_cases hst : s = t
            · subst hst
              have hst2 := suf_step (f := a.length - k - (j + 1)) (by rw [show a.length - k - (j + 1) + 1 = a.length - k - j by omega]; exact HF.out) (by rw [HMT.out]; simp)
              have HST := Lib.hid hst2; clear hst2
              go_wp2_with fail
              go_quiet (fail)
              go_wp2_with fail
              go_roundw
              case rel => exact ⟨j + 1, by omega, by go_num, HST.out, HE.out.drewN _⟩
              case measure => simp [intOf]; omega
            have hne := ne_list hst
            have hp := suf_stop HF.out (.inr (by rw [HMT.out]; simpa using hst))
            have HP2 := Lib.hid hp; clear hp hst
            go_wp2_with fail
            go_quiet (fail)
            go_wp2_with fail
            refine bodyPost_ret (v := .tuple #[.int .i64 (k : Int), .int .i64 (j : Int)]) (by simp [results, Tryz.results71, go_sem]) rfl ⟨by rw [HP.out, HP2.out], HE.out.drewN _⟩
          case neg =>
            have hp := suf_stop HF.out (.inl (by omega))
            have HP2 := Lib.hid hp; clear hp
            have q1 : decide ((k : Int) + j < (a.length : Nat)) = false := nd (by omega)
            have e0 : IntKind.i64.wrap ((k : Int) + j) = (k : Int) + j := wrap_in (by omega) (by omega)
            go_wp2_with fail
            go_quiet (fail)
            go_wp2_with fail
            refine bodyPost_ret (v := .tuple #[.int .i64 (k : Int), .int .i64 (j : Int)]) (by simp [results, Tryz.results71, go_sem]) rfl ⟨by rw [HP.out, HP2.out], HE.out.drewN _⟩
      case neg =>
        obtain rfl : k = a.length := by omega
        have hp := pre_stop HF.out (mtB_out (by omega))
        have HP := Lib.hid hp; clear hp
        have q1 : decide (a.length < a.length) = false := nd hlt
        go_wp2_with fail
        go_quiet (fail)
        go_wp2_with fail
        clear q1
        have HE9 := Lib.hid (HE.out.drewN nq)
        obtain ⟨w5, hw5⟩ : ∃ w5, w5 = wr.drewN nq := ⟨_, rfl⟩
        rw [← hw5] at HE9
        rw [← hw5]
        clear hw5 HE HF
        go_loopw [8] (fun v8 wr => ∃ j : Nat, a.length + j ≤ a.length ∧ v8 = .int .i64 j ∧ sufF a b (a.length - a.length - j) j = sufN a b ∧ Ext w wr) (fun v8 _ => a.length - (intOf v8).toNat)
        case atStart => exact ⟨0, by omega, rfl, by rw [sufN, HP.out]; congr 1; omega, HE9.out⟩
        clear HE9
        case round =>
          obtain ⟨j, hj, rfl, hf, hE⟩ := hrel
          have HF := Lib.hid hf; have HE := Lib.hid hE; clear hf hE
          by_cases hlt2 : a.length + j < a.length
          case pos =>
            obtain ⟨x, hx⟩ : ∃ x, a.length = x + 1 + j := ⟨a.length - 1 - j, by omega⟩
            obtain ⟨y, hy⟩ : ∃ y, b.length = y + 1 + j := ⟨b.length - 1 - j, by omega⟩
            obtain ⟨ba, oa, s, hA, hba, hs, hs2, hc1⟩ := (HA.out.ext HE.out).get (k := x) (by omega)
            first | subst hA | cases hA
            obtain ⟨bb, ob, t, hB, hbb, ht, ht2, hc2⟩ := (HB.out.ext HE.out).get (k := y) (by omega)
            first | subst hB | cases hB
            have hmt : mtB a b ((a.length : Int) - 1 - j) ((b.length : Int) - 1 - j) = decide (s = t) := by
              rw [show (a.length : Int) - 1 - j = (x : Nat) by omega, show (b.length : Int) - 1 - j = (y : Nat) by omega]; exact mtB_at hs ht
            have HMT := Lib.hid hmt; clear hmt hs ht
            have q1 : decide ((a.length : Int) + j < (a.length : Nat)) = true := yd (by omega)
            have e0 : IntKind.i64.wrap ((a.length : Int) + j) = (a.length : Int) + j := wrap_in (by omega) (by omega)
            have e1 : IntKind.i64.wrap ((a.length : Int) - 1 - j) = (x : Int) := by rw [wrap_in (by omega) (by omega)]; omega
            have e2 : IntKind.i64.wrap ((b.length : Int) - 1 - j) = (y : Int) := by rw [wrap_in (by omega) (by omega)]; omega
            have l1 : x < a.length := by omega
            have l2 : y < b.length := by omega
            have HX := Lib.hid hx; have HY := Lib.hid hy; clear hx hy
            by_cases hst : s = t
            · subst hst
              have hst2 := suf_step (f := a.length - a.length - (j + 1)) (by rw [show a.length - a.length - (j + 1) + 1 = a.length - a.length - j by omega]; exact HF.out) (by rw [HMT.out]; simp)
              have HST := Lib.hid hst2; clear hst2
              go_wp2_with fail
              go_quiet (fail)
              go_wp2_with fail
              go_roundw
              case rel => exact ⟨j + 1, by omega, by go_num, HST.out, HE.out.drewN _⟩
              case measure => simp [intOf]; omega
            have hne := ne_list hst
            have hp := suf_stop HF.out (.inr (by rw [HMT.out]; simpa using hst))
            have HP2 := Lib.hid hp; clear hp hst
            go_wp2_with fail
            go_quiet (fail)
            go_wp2_with fail
            refine bodyPost_ret (v := .tuple #[.int .i64 (a.length : Int), .int .i64 (j : Int)]) (by simp [results, Tryz.results71, go_sem]) rfl ⟨by rw [HP.out, HP2.out], HE.out.drewN _⟩
          case neg =>
            have hp := suf_stop HF.out (.inl (by omega))
            have HP2 := Lib.hid hp; clear hp
            have q1 : decide ((a.length : Int) + j < (a.length : Nat)) = false := nd (by omega)
            have e0 : IntKind.i64.wrap ((a.length : Int) + j) = (a.length : Int) + j := wrap_in (by omega) (by omega)
            go_wp2_with fail
            go_quiet (fail)
            go_wp2_with fail
            refine bodyPost_ret (v := .tuple #[.int .i64 (a.length : Int), .int .i64 (j : Int)]) (by simp [results, Tryz.results71, go_sem]) rfl ⟨by rw [HP.out, HP2.out], HE.out.drewN _⟩
end Go.Proofs.YtmmcjcaccicheaaGreatDoor

/- Contracts on trees: find, split, join, put, without. -/
import Derived.Test.YtbjniaihkllmdaaTrWide
namespace Go.Proofs.Ytbjniaihkllmdaa
open Go.RowKit

def BT.size : BT → Nat
  | .leaf => 0
  | .node l _ _ r => l.size + r.size + 1
theorem BT.mt_size : ∀ b : BT, b.mt.size = b.size
  | .leaf => rfl
  | .node l k v r => by simp [BT.mt, MT.size, BT.size, BT.mt_size l, BT.mt_size r]
/-- The value of a key, by the tree's order. -/
def findV (k : ByteArray) : BT → Option ByteArray
  | .leaf => none
  | .node l k' v r => if klt k k' then findV k l else if k = k' then some v else findV k r
def splitV (k : ByteArray) : BT → BT × BT
  | .leaf => (.leaf, .leaf)
  | .node l k' v r => if klt k' k then (.node l k' v (splitV k r).1, (splitV k r).2) else ((splitV k l).1, .node (splitV k l).2 k' v r)
def joinF : Nat → BT → BT → BT
  | 0, a, _ => a
  | _ + 1, .leaf, b => b
  | _ + 1, .node l k v r, .leaf => .node l k v r
  | f + 1, .node l k v r, .node l' k' v' r' => if ahB k k' then .node l k v (joinF f r (.node l' k' v' r')) else .node (joinF f (.node l k v r) l') k' v' r'
def joinV (a b : BT) : BT := joinF (a.size + b.size + 1) a b
def putV (k v : ByteArray) : BT → BT
  | .leaf => .node .leaf k v .leaf
  | .node l k' v' r => if k' = k then .node l k v r else if ahB k k' then .node (splitV k (.node l k' v' r)).1 k v (splitV k (.node l k' v' r)).2 else
      if klt k k' then .node (putV k v l) k' v' r else .node l k' v' (putV k v r)
def woV (k : ByteArray) : BT → BT
  | .leaf => .leaf
  | .node l k' v r => if k = k' then joinV l r else if klt k k' then .node (woV k l) k' v r else .node l k' v (woV k r)

theorem ne_list {s t : ByteArray} (h : s ≠ t) : (s.toList == t.toList) = false := by
  cases e : (s.toList == t.toList) with
  | false => rfl
  | true => exact absurd (toList_inj (by simpa using e)) h
/-- How a map comes back: a slice, and the tree in it. -/
def Got (b : BT) (w : World) (e : Ending) (w' : World) : Prop := ∃ A n c, e = .returned (.slice A n c) ∧ BAt w' b A n ∧ Ext w w'

/-! ### Memory tells one map -/
theorem Row.unique {w : World} : ∀ {t t' : MT} {b off : Nat}, Row w t b off → Row w t' b off → t.len = t'.len → t = t'
  | .nil, .nil, _, _, _, _, _ => rfl
  | .nil, .cons _ _ _ _ _, _, _, _, _, h => by simp [MT.len] at h
  | .cons _ _ _ _ _, .nil, _, _, _, _, h => by simp [MT.len] at h
  | .cons k v l r rest, .cons k' v' l' r' rest', b, off, ⟨_, h1, h2, ⟨A, n, c, a1, _, a3, a4⟩, ⟨B, m, d, b1, _, b3, b4⟩, h5⟩, ⟨_, g1, g2, ⟨A', n', c', e1, _, e3, e4⟩, ⟨B', m', d', f1, _, f3, f4⟩, g5⟩, hlen => by
    rw [h1] at g1; cases g1
    rw [h2] at g2; cases g2
    rw [a1] at e1; cases e1
    rw [b1] at f1; cases f1
    have hl : l = l' := by
      rcases a4 with a4 | ⟨b1, o1, p1, _, p3⟩
      · rw [MT.len_zero (a3.trans a4), MT.len_zero (e3.trans a4)]
      · rcases e4 with e4 | ⟨b2, o2, q1, _, q3⟩
        · rw [MT.len_zero (a3.trans e4), MT.len_zero (e3.trans e4)]
        · rw [p1] at q1; cases q1
          exact Row.unique p3 q3 (a3.trans e3.symm)
    have hr : r = r' := by
      rcases b4 with b4 | ⟨b1, o1, p1, _, p3⟩
      · rw [MT.len_zero (b3.trans b4), MT.len_zero (f3.trans b4)]
      · rcases f4 with f4 | ⟨b2, o2, q1, _, q3⟩
        · rw [MT.len_zero (b3.trans f4), MT.len_zero (f3.trans f4)]
        · rw [p1] at q1; cases q1
          exact Row.unique p3 q3 (b3.trans f3.symm)
    have hs : rest = rest' := Row.unique h5 g5 (by simp only [MT.len] at hlen; omega)
    rw [hl, hr, hs]
theorem MapAt.unique {w : World} {t t' : MT} {A : Option Addr} {n : Nat} (h : MapAt w t A n) (k : MapAt w t' A n) : t = t' := by
  obtain ⟨_, h1, h2⟩ := h
  obtain ⟨_, k1, k2⟩ := k
  rcases h2 with h2 | ⟨b, off, p1, _, p3⟩
  · rw [MT.len_zero (h1.trans h2), MT.len_zero (k1.trans h2)]
  · rcases k2 with k2 | ⟨b', off', q1, _, q3⟩
    · rw [MT.len_zero (h1.trans k2), MT.len_zero (k1.trans k2)]
    · rw [p1] at q1; cases q1
      exact Row.unique p3 q3 (h1.trans k1.symm)
open Classical in
/-- How large the map behind a value is. -/
noncomputable def szAt (v : Value) (w : World) : Nat := if h : ∃ (t : MT), ∃ B m d, v = .slice B m d ∧ MapAt w t B m then (Classical.choose h).size else 0
theorem szAt_is {w : World} {t : MT} {B : Option Addr} {m d : Nat} (h : MapAt w t B m) : szAt (.slice B m d) w = t.size := by
  have hx : ∃ (t : MT), ∃ B' m' d', Value.slice B m d = .slice B' m' d' ∧ MapAt w t B' m' := ⟨t, B, m, d, rfl, h⟩
  unfold szAt
  rw [dif_pos hx]
  obtain ⟨B', m', d', e, h2⟩ := Classical.choose_spec hx
  cases e
  rw [h2.unique h]

set_option maxRecDepth 100000 in
set_option maxHeartbeats 8000000 in
theorem find_any (t : BT) (A : Option Addr) (n c : Nat) (k : ByteArray) (w : World) (hm : BAt w t A n) :
    Calls Try.prog 53 #[.slice A n c, .string k] w fun e w' => e = .returned (.tuple #[.string ((findV k t).getD ⟨#[]⟩), .bool (findV k t).isSome]) ∧ Ext w w' := by
  have HM := Lib.hid hm; clear hm
  go_enter Try.func53, Try.ntmps53
  go_wp2_with fail
  go_loopw [0] (fun v0 wr => ∃ (s : BT) (B : Option Addr) (m d : Nat), v0 = .slice B m d ∧ BAt wr s B m ∧ findV k s = findV k t ∧ Ext w wr) (fun v0 wr => szAt v0 wr)
  case atStart => exact ⟨t, A, n, c, rfl, HM.out, rfl, Ext.refl _⟩
  case round =>
    obtain ⟨s, B, m, d, rfl, hs, hf, hE⟩ := hrel
    have HE := Lib.hid hE; clear hE
    cases s with
    | leaf =>
      obtain rfl := hs.leaf
      have hf2 : findV k t = none := hf.symm
      have HF := Lib.hid hf2; clear hf hf2 hs
      go_wp2_with fail
      refine bodyPost_ret (v := .tuple #[.string ⟨#[]⟩, .bool false]) (by simp [results, Try.results53, go_sem]) rfl ⟨by rw [HF.out]; rfl, HE.out⟩
    | node l k' v r =>
      have hm := hs
      have hsz := szAt_is (d := d) hs
      rw [BT.mt_size, BT.size] at hsz
      obtain ⟨b, off, Al, nl, cl, Ar, nr, cr, rfl, rfl, hb, hks, c0, c1, c2, c3, hl, hr⟩ := hm.node
      have hx : Ext wr (wr.alloc (nodeObj k' v Al nl cl Ar nr cr)) := (Ext.refl wr).alloc _
      have hsl : szAt (.slice Al nl cl) (wr.alloc (nodeObj k' v Al nl cl Ar nr cr)) = l.size := by rw [szAt_is (hl.ext hx), BT.mt_size]
      have hsr : szAt (.slice Ar nr cr) (wr.alloc (nodeObj k' v Al nl cl Ar nr cr)) = r.size := by rw [szAt_is (hr.ext hx), BT.mt_size]
      have HX := Lib.hid hx; have HL := Lib.hid hl; have HR := Lib.hid hr; have HSL := Lib.hid hsl; have HSR := Lib.hid hsr; have HSZ := Lib.hid hsz; have HF := Lib.hid hf
      clear hx hl hr hsl hsr hsz hf hs hm hks
      go_wp2_with fail
      refine (compare_any k k' _).mono ?_
      rintro e w' ⟨rfl, rfl⟩
      by_cases h1 : klt k k' = true
      · have hc : cmpV k k' = -1 := by rw [cmpV, if_pos h1]
        rw [hc]
        have hf2 : findV k l = findV k t := by have h := HF.out; rwa [findV, if_pos h1] at h
        have HF2 := Lib.hid hf2; clear hc hf2 h1
        go_wp2_with fail
        go_roundw
        case rel => exact ⟨l, Al, nl, cl, rfl, HL.out.ext HX.out, HF2.out, HE.out.trans HX.out⟩
        case measure => show szAt _ _ < szAt _ _; rw [HSZ.out]; exact Nat.lt_of_le_of_lt (Nat.le_of_eq HSL.out) (by omega)
      by_cases h2 : k = k'
      · have hc : cmpV k k' = 0 := by rw [cmpV, if_neg h1, if_pos h2]
        rw [hc]
        have hf2 : findV k t = some v := by have h := HF.out; rw [findV, if_neg h1, if_pos h2] at h; exact h.symm
        have HF2 := Lib.hid hf2; clear hc hf2 h1 h2
        go_wp2_with fail
        refine bodyPost_ret (v := .tuple #[.string v, .bool true]) (by simp [results, Try.results53, go_sem]) rfl ⟨by rw [HF2.out]; rfl, HE.out.trans HX.out⟩
      · have hc : cmpV k k' = 1 := by rw [cmpV, if_neg h1, if_neg h2]
        rw [hc]
        have hf2 : findV k r = findV k t := by have h := HF.out; rwa [findV, if_neg h1, if_neg h2] at h
        have HF2 := Lib.hid hf2; clear hc hf2 h1 h2
        go_wp2_with fail
        go_roundw
        case rel => exact ⟨r, Ar, nr, cr, rfl, HR.out.ext HX.out, HF2.out, HE.out.trans HX.out⟩
        case measure => show szAt _ _ < szAt _ _; rw [HSZ.out]; exact Nat.lt_of_le_of_lt (Nat.le_of_eq HSR.out) (by omega)

/-! ### split -/
def Got2 (p : BT × BT) (w : World) (e : Ending) (w' : World) : Prop := ∃ A n c B m d, e = .returned (.tuple #[.slice A n c, .slice B m d]) ∧ BAt w' p.1 A n ∧ BAt w' p.2 B m ∧ Ext w w'
set_option maxRecDepth 100000 in
set_option maxHeartbeats 8000000 in
theorem split_any (k : ByteArray) : ∀ (t : BT) (A : Option Addr) (n c : Nat) (w : World), BAt w t A n → Calls Try.prog 58 #[.slice A n c, .string k] w (Got2 (splitV k t) w)
  | .leaf, A, n, c, w, hm => by
    obtain rfl := hm.leaf
    clear hm
    go_enter Try.func58, Try.ntmps58
    go_wp2_with fail
    refine bodyPost_ret (v := .tuple #[.slice none 0 0, .slice none 0 0]) (by simp [results, Try.results58, go_sem]) rfl ?_
    exact ⟨none, 0, 0, none, 0, 0, rfl, MapAt.nil _ _, MapAt.nil _ _, Ext.refl _⟩
  | .node l k' v' r, A, n, c, w, hm => by
    have IHL := split_any k l
    have IHR := split_any k r
    obtain ⟨b, off, Al, nl, cl, Ar, nr, cr, rfl, rfl, hb, hks, c0, c1, c2, c3, hl, hr⟩ := hm.node
    obtain ⟨gx, hgx⟩ : ∃ gx, w.heap.size = gx := ⟨_, rfl⟩
    have hbx : Blk (w.alloc (nodeObj k' v' Al nl cl Ar nr cr)) gx (nodeObj k' v' Al nl cl Ar nr cr) := Blk.new w _ hgx.symm
    have hEx : Ext w (w.alloc (nodeObj k' v' Al nl cl Ar nr cr)) := (Ext.refl w).alloc _
    have HL := Lib.hid hl; have HR := Lib.hid hr; have HKS := Lib.hid hks; have IL := Lib.hid IHL; have IR := Lib.hid IHR; have HBX := Lib.hid hbx; have HEX := Lib.hid hEx
    clear hl hr hks IHL IHR hm hbx hEx
    by_cases h1 : klt k' k = true
    · have q1 : Op.bytesLess k'.toList k.toList = true := h1
      have hv : splitV k (.node l k' v' r) = (.node l k' v' (splitV k r).1, (splitV k r).2) := by rw [splitV, if_pos h1]
      have HV := Lib.hid hv; clear hv h1
      go_enter Try.func58, Try.ntmps58
      go_wp2_with fail
      refine (IR.out Ar nr cr _ (HR.out.ext HEX.out)).mono ?_
      rintro e w1 ⟨A1, n1, c1', B1, m1, d1, rfl, hg1, hg2, hE⟩
      have HG1 := Lib.hid hg1; have HG2 := Lib.hid hg2; have HE1 := Lib.hid (HEX.out.trans hE)
      obtain ⟨d0', d1', d2', d3'⟩ := (HBX.out.ext hE).cells4
      have hgl := (HBX.out.ext hE).lt
      clear hg1 hg2 hE c0 c1 c2 c3
      go_wp2_with fail
      refine (node_any _ _ HKS.out.1 HKS.out.2 (HL.out.ext HE1.out) HG1.out).mono ?_
      rintro e w2 ⟨g, rfl, hg, hE⟩
      have HG := Lib.hid hg; have HE2 := Lib.hid (HE1.out.trans hE); have HG3 := Lib.hid (HG2.out.ext hE); clear hg hE
      go_wp2_with fail
      refine bodyPost_ret (v := .tuple #[.slice (some ⟨g, 0, none⟩) 1 1, .slice B1 m1 d1]) (by simp [results, Try.results58, go_sem]) rfl ?_
      exact ⟨_, _, _, _, _, _, rfl, by rw [HV.out]; exact HG.out, by rw [HV.out]; exact HG3.out, HE2.out⟩
    · have q1 : Op.bytesLess k'.toList k.toList = false := by simpa [klt] using h1
      have hv : splitV k (.node l k' v' r) = ((splitV k l).1, .node (splitV k l).2 k' v' r) := by rw [splitV, if_neg h1]
      have HV := Lib.hid hv; clear hv h1
      go_enter Try.func58, Try.ntmps58
      go_wp2_with fail
      refine (IL.out Al nl cl _ (HL.out.ext HEX.out)).mono ?_
      rintro e w1 ⟨A1, n1, c1', B1, m1, d1, rfl, hg1, hg2, hE⟩
      have HG1 := Lib.hid hg1; have HG2 := Lib.hid hg2; have HE1 := Lib.hid (HEX.out.trans hE)
      obtain ⟨d0', d1', d2', d3'⟩ := (HBX.out.ext hE).cells4
      have hgl := (HBX.out.ext hE).lt
      clear hg1 hg2 hE c0 c1 c2 c3
      go_wp2_with fail
      refine (node_any _ _ HKS.out.1 HKS.out.2 HG2.out (HR.out.ext HE1.out)).mono ?_
      rintro e w2 ⟨g, rfl, hg, hE⟩
      have HG := Lib.hid hg; have HE2 := Lib.hid (HE1.out.trans hE); have HG3 := Lib.hid (HG1.out.ext hE); clear hg hE
      go_wp2_with fail
      refine bodyPost_ret (v := .tuple #[.slice A1 n1 c1', .slice (some ⟨g, 0, none⟩) 1 1]) (by simp [results, Try.results58, go_sem]) rfl ?_
      exact ⟨_, _, _, _, _, _, rfl, by rw [HV.out]; exact HG3.out, by rw [HV.out]; exact HG.out, HE2.out⟩
end Go.Proofs.Ytbjniaihkllmdaa

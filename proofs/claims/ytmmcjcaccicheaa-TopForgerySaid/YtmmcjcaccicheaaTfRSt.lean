/- The memory of the reference's Strings. No condition. -/
import Derived.Test.YtmmcjcaccicheaaTfRTag
namespace Go.Proofs.Ytmmcjcaccicheaa
open Go.RowKit
def sv (b : Bs) : Value := .string (bst b)
theorem infoStr : (Try.prog.info? 9).map (fun i => (i.zero, i.size, i.bytes)) = some (some (.string ⟨#[]⟩), 1, 16) := by kernel_rfl
/-- A block of another type is not the row's. -/
theorem own_off {w : World} {base size n g : Nat} {e t : TypeId} {v : Value} {xs : List Value} {cs : Array Value} {f : Nat × Nat} (h : w.ownsRow base e size v n xs) (hb : Blk w g (.cells cs t f)) (hne : e ≠ t) : v.ownBlock ≠ some g := by
  intro k
  obtain ⟨-, cur, hc⟩ := own_blk h k
  unfold Blk at hb hc
  rw [hb] at hc
  cases hc
  exact hne rfl
theorem BRow.off {w0 W : World} {v : Value} {l : Bs} {g : Nat} {t : TypeId} {cs : Array Value} {f : Nat × Nat} (h : BRow w0 W v l) (hb : Blk W g (.cells cs t f)) (hne : 5 ≠ t) : v.ownBlock ≠ some g := by
  obtain ⟨-, g', cap, cs', f', rfl, -, -, -, hg, -⟩ := h
  intro e
  cases e
  unfold Blk at hb
  rw [hb] at hg
  cases hg
  exact hne rfl
theorem BRow.own {w0 W : World} {v : Value} {l : Bs} (h : BRow w0 W v l) : ∃ g cs f, v.ownBlock = some g ∧ w0.heap.size ≤ g ∧ Blk W g (.cells cs 5 f) := by
  obtain ⟨-, g', cap, cs', f', rfl, h2, -, -, hg, -⟩ := h
  exact ⟨g', cs', f', rfl, h2, hg⟩
theorem BRow.lv {w0 W W' : World} {v : Value} {l : Bs} (h : BRow w0 W v l) {S : Nat → Prop} (k : Lv S W W') (hb : ∀ g, g < w0.heap.size → ¬ S g) (hS : ∀ g, v.ownBlock = some g → ¬ S g) : BRow w0 W' v l := by
  obtain ⟨h1, g, cap, cs, f, rfl, b, c, d, hg, r⟩ := h
  exact ⟨k.extBelow h1 hb, g, cap, cs, f, rfl, b, c, d, Blk.lv (o := .cells cs 5 f) hg k (hS g rfl), r⟩
/-- The strings so far and the bytes so far. -/
structure StSt (W1 W : World) (out : Value) (xs : List Bs) (s : Value) (l : Bs) : Prop where
  own : W.ownsRow W1.heap.size 9 1 out xs.length (xs.map sv)
  row : BRow W1 W s l
section
variable {W1 W W' : World} {out s v' : Value} {xs : List Bs} {l y : Bs} {x : Bs}
theorem StSt.ext (h : StSt W1 W out xs s l) (e : Ext W W') : StSt W1 W' out xs s l := ⟨own_stab3 e h.own, h.row.more e⟩
theorem StSt.stab : Stab (fun W => StSt W1 W out xs s l) := fun _ _ e h => h.ext e
theorem StSt.lv (h : StSt W1 W out xs s l) {S : Nat → Prop} (k : Lv S W W') (hb : ∀ g, g < W1.heap.size → ¬ S g) (h1 : ∀ g, out.ownBlock = some g → ¬ S g) (h2 : ∀ g, s.ownBlock = some g → ¬ S g) : StSt W1 W' out xs s l :=
  ⟨own_lv h.own k h1, h.row.lv k hb h2⟩
/-- A string is appended. -/
theorem StSt.app (h : StSt W1 W out xs s l) (ho : W'.ownsRow W1.heap.size 9 1 v' (xs.length + 1) (xs.map sv ++ [sv x])) (hg : W.grownBy W' out.ownBlock) : StSt W1 W' v' (xs ++ [x]) s l := by
  have hlv : Lv (fun g => out.ownBlock = some g) W W' := (Lv.refl _ W).grown hg (fun k hk _ => hk)
  refine ⟨?_, h.row.lv hlv (fun g hg hx => by have := (own_blk h.own hx).1; omega) (fun g hx hy => ?_)⟩
  · rw [List.length_append, List.map_append]; exact ho
  · obtain ⟨g', cs, f, e, -, hb⟩ := h.row.own
    rw [hx] at e; cases e
    exact own_off h.own hb (by decide) hy
/-- Bytes are appended. -/
theorem StSt.push (h : StSt W1 W out xs s l) (ho : BRow W1 W' v' (l ++ y)) (hg : W.grownBy W' s.ownBlock) : StSt W1 W' out xs v' (l ++ y) := by
  have hlv : Lv (fun g => s.ownBlock = some g) W W' := (Lv.refl _ W).grown hg (fun k hk _ => hk)
  refine ⟨own_lv h.own hlv (fun g hx hy => ?_), ho⟩
  obtain ⟨g', cs, f, e, -, hb⟩ := h.row.own
  rw [hy] at e; cases e
  exact own_off h.own hb (by decide) hx
/-- A digest's variable takes a value. -/
theorem StSt.dgset (h : StSt W1 W out xs s l) {g : Nat} {L : List Value} (hA : Arr W g 34 L) (hb : W1.heap.size ≤ g) (k : Lv (fun n => n = g) W W') : StSt W1 W' out xs s l :=
  h.lv k (fun n hn e => by omega) (fun n hn e => by subst e; exact own_off h.own (cs := L.toArray) (f := (0, 0)) hA (by decide) hn) (fun n hn e => by subst e; exact h.row.off (cs := L.toArray) (f := (0, 0)) hA (by decide) hn)
/-- A digest's variable stays while bytes are appended. -/
theorem StSt.dgkeep (h : StSt W1 W out xs s l) {g : Nat} {L : List Value} (hA : Arr W g 34 L) (hg : W.grownBy W' s.ownBlock) : Arr W' g 34 L :=
  (hg.block g hA.lt (fun e => h.row.off (cs := L.toArray) (f := (0, 0)) hA (by decide) e.symm)).trans hA
theorem StSt.dgkeep2 (h : StSt W1 W out xs s l) {g : Nat} {L : List Value} (hA : Arr W g 34 L) (hg : W.grownBy W' out.ownBlock) : Arr W' g 34 L :=
  (hg.block g hA.lt (fun e => own_off h.own (cs := L.toArray) (f := (0, 0)) hA (by decide) e.symm)).trans hA
end
theorem put_dg_lv {W : World} {g : Nat} {l0 : List Value} (h0 : Arr W g 34 l0) (hl : l0.length = 32) (l : Bs) (h : l.length = 32) : ∃ W', (StT 34 (.pointer (some ⟨g, 0, none⟩)) (dv l)).run Try.prog W = .ok () W' ∧ Arr W' g 34 (dgl l) ∧ Lv (fun k => k = g) W W' :=
  ⟨_, stDg h0 hl (l' := dgl l) (by rw [dgl_len]; exact h) (dgl_one l), h0.put _, Lv.setRow (S := fun k => k = g) (Lv.refl _ W) (fun _ => rfl) _⟩
theorem leafS_succ (H : Bs → Bs) (bit : Nat → Nat) (rev oth : List Bs) (n : Nat) : leafS H bit rev oth (n + 1) = leafS H bit rev oth n ++ pairV H bit rev oth n := by
  unfold leafS; rw [List.range_succ, List.flatMap_append]; simp
theorem leafS_len {H : Bs → Bs} (hH : ∀ s, (H s).length = 32) {bit : Nat → Nat} {rev oth : List Bs} (ho : ∀ d ∈ oth, d.length = 32) : ∀ n, n ≤ oth.length → (leafS H bit rev oth n).length = 1 + 64 * n
  | 0, _ => rfl
  | n + 1, h => by rw [leafS_succ, List.length_append, leafS_len hH ho n (by omega), pairV_len hH ho (by omega)]; omega
/-- The bytes as a string. -/
theorem brow_string {w0 W : World} {v : Value} {l : Bs} (h : BRow w0 W v l) : (convert 71 9 v).run Try.prog W = .ok (.string (bst l)) W := by
  obtain ⟨g, cap, rfl, -, -, -, -, hc⟩ := h.cells
  rw [← bst_mk]
  exact string_back W g 0 cap l rfl (fun j x hj => by rw [Nat.zero_add]; exact hc j x hj)
end Go.Proofs.Ytmmcjcaccicheaa

/- A map from strings to pairs of numbers of one's own, read as a function. No condition. -/
import Derived.Test.YtmmhbnlafcmloaaPaDefs
import Derived.Test.YtmmhbnlafcmloaaIter
import Derived.Maps.Own
import Derived.Maps.OwnSet
import Derived.Maps.OwnOps
import Derived.Maps.Views
import Derived.Maps.Keyed
import Derived.StringKeys
namespace Go.Proofs.Ytmmhbnlafcmloaa
open Go.RowKit Go.WideMaps Go.Maps

theorem underStr : Try.prog.underlying 9 = some .string := by kernel_rfl
theorem underMS : Try.prog.underlying 45 = some (.map 9 48) := by kernel_rfl
theorem keyedS : Keyed Try.prog 9 := string_keyed underStr
theorem zeroSpot (w : World) : (zeroValue 48).run Try.prog w = .ok (.agg #[.int .i64 0, .int .i64 0]) w := by kernel_rfl
def kOf (s : ByteArray) : Lit := .string s.data.toList
theorem key_of {s : ByteArray} (h : s.size ≤ maxLen) : keyOf Try.prog 9 (.string s) = some (kOf s) := keyOf_string_mk underStr h
theorem kOf_inj {s t : ByteArray} (h : kOf s = kOf t) : s = t := by
  cases s; cases t
  simp only [kOf, Lit.string.injEq] at h
  rw [Array.toList_inj.1 h]

/-- How a pair reads. -/
def pairD (p : Int × Int) : DataW Unit := .slice [.lit (.int .i64 p.1), .lit (.int .i64 p.2)] []
def pairR (v : Value) : Option (DataW Unit × List MemPlace) :=
  match v with
  | .agg ⟨[.int .i64 x, .int .i64 y]⟩ => some (pairD (x, y), [])
  | _ => none
theorem pairR_mk (x y : Int) : pairR (.agg #[.int .i64 x, .int .i64 y]) = some (pairD (x, y), []) := rfl
theorem pairD_inj {p q : Int × Int} (h : pairD p = pairD q) : p = q := by
  unfold pairD at h
  injection h with h1 _
  simp only [List.cons.injEq, DataW.lit.injEq, Lit.int.injEq, true_and, and_true] at h1
  exact Prod.ext h1.1 h1.2
theorem pairR_inv {v : Value} {p : Int × Int} {ps : List MemPlace} (h : pairR v = some (pairD p, ps)) : v = .agg #[.int .i64 p.1, .int .i64 p.2] := by
  unfold pairR at h
  split at h
  · rename_i x y
    simp only [Option.some.injEq, Prod.mk.injEq] at h
    have := pairD_inj h.1
    subst this; rfl
  · cases h

/-- Block g is a map of at most n pairs, and tells f. -/
def MapP (w : World) (g n : Nat) (f : ByteArray → Int × Int) : Prop :=
  ∃ D : DataW Unit, w.ownsMap Try.prog 9 pairR g n D ∧ ∀ s, D.atKey (kOf s) (pairD (0, 0)) = pairD (f s)
theorem MapP.new (w : World) {g : Nat} (hg : g = w.heap.size) : MapP (w.alloc (.map #[] 0)) g 0 (fun _ => (0, 0)) := by
  subst hg; exact ⟨_, World.ownsMap_made _ _ _ _, fun s => by rfl⟩
theorem MapP.lv {S : Nat → Prop} {w w' : World} {g n : Nat} {f : ByteArray → Int × Int} (h : MapP w g n f) (k : Lv S w w') (hS : ¬ S g) : MapP w' g n f := by
  obtain ⟨D, ⟨es, clock, hb, r⟩, h2⟩ := h
  exact ⟨D, ⟨es, clock, (k.2 g (Array.getElem?_eq_some_iff.1 hb).1 hS).trans hb, r⟩, h2⟩
theorem MapP.ext {w w' : World} {g n : Nat} {f : ByteArray → Int × Int} (h : MapP w g n f) (e : Ext w w') : MapP w' g n f := h.lv (Lv.of_ext (S := fun _ => False) e) id
theorem MapP.look {w : World} {g n : Nat} {f : ByteArray → Int × Int} (h : MapP w g n f) {s : ByteArray} (hs : s.size ≤ maxLen) : (Instr.lookup 45 (.map (some g)) (.string s) false).run Try.prog w = .ok (.agg #[.int .i64 (f s).1, .int .i64 (f s).2]) w := by
  obtain ⟨D, hD, hf⟩ := h
  obtain ⟨v, ps, hrun, hv⟩ := hD.lookup keyedS underMS (zeroSpot w) (pairR_mk 0 0) (key_of hs)
  rw [hf s] at hv
  rw [hrun, pairR_inv hv]

/-- 'm[s] = spot{x, y}' at the operation. -/
theorem wpList_mapP_put (w : World) {ops : Array Oper} {rest : List Oper} {o : Oper} {a : Act} {Q : Exit → Act → World → Prop}
    (hg : o.guard = none) (m x v : Operand) (hop : o.op = Op.mapUpdate 45 m x v) (b n : Nat) (f : ByteArray → Int × Int)
    (hm : a.eval m = .map (some b)) (hown : MapP w b n f) (hn : n < maxLen) (s : ByteArray) (c d : Int) (hx : a.eval x = .string s) (hv : a.eval v = .agg #[.int .i64 c, .int .i64 d]) (hs : s.size ≤ maxLen)
    (hK : ∀ w', MapP w' b (n + 1) (fun t => if t = s then (c, d) else f t) → w.grownBy w' (some b) → wpList Try.prog ops Q rest (a.put o.dst undef) w') :
    wpList Try.prog ops Q (o :: rest) a w := by
  obtain ⟨D, hD, hf⟩ := hown
  refine wpList_mapUpdate_own w hg m x v 45 hop 9 48 keyedS underMS _ b n D hm hD hn _ _ _ hx hv (key_of hs) _ [] (pairR_mk c d) (fun w' h1 h2 => hK w' ⟨_, h1, fun t => ?_⟩ h2)
  dsimp only
  by_cases h : t = s
  · subst h; rw [if_pos rfl]; exact atKey_put_same (k := kOf t) hD.isMap (by simp [kOf, WideAt.IsKeyLit]) _ _
  · rw [if_neg h, atKey_put_other (fun e => h (kOf_inj e))]; exact hf t
end Go.Proofs.Ytmmhbnlafcmloaa

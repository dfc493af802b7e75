/- A map from strings to numbers of one's own, read as a function. No condition. -/
import Derived.Test.YtkkjhkmfoeblaaaHiDefs
import Derived.Maps.Own
import Derived.Maps.OwnSet
import Derived.Maps.OwnOps
import Derived.Maps.Views
import Derived.Maps.Keyed
import Derived.StringKeys
namespace Go.Proofs.Ytkkjhkmfoeblaaa
open Go.RowKit Go.WideMaps Go.Maps

theorem underStr : Try.prog.underlying 9 = some .string := by kernel_rfl
theorem underInt : Try.prog.underlying 3 = some (.int .i64) := by kernel_rfl
theorem underSI : Try.prog.underlying 42 = some (.map 9 3) := by kernel_rfl
theorem keyedS : Keyed Try.prog 9 := string_keyed underStr
theorem zeroInt (w : World) : (zeroValue 3).run Try.prog w = .ok (.int .i64 0) w := by kernel_rfl
def kOf (s : ByteArray) : Lit := .string s.data.toList
theorem key_of {s : ByteArray} (h : s.size ≤ maxLen) : keyOf Try.prog 9 (.string s) = some (kOf s) := keyOf_string_mk underStr h
theorem kOf_inj {s t : ByteArray} (h : kOf s = kOf t) : s = t := by
  cases s; cases t
  simp only [kOf, Lit.string.injEq] at h
  rw [Array.toList_inj.1 h]

/-- Block g is a map of at most n numbers, and tells f. -/
def MapI (w : World) (g n : Nat) (f : ByteArray → Int) : Prop :=
  ∃ D : DataW Unit, w.ownsMap Try.prog 9 (plainElem Try.prog 3) g n D ∧ ∀ s, D.atKey (kOf s) (.lit (.int .i64 0)) = .lit (.int .i64 (f s))
theorem MapI.new (w : World) {g : Nat} (hg : g = w.heap.size) : MapI (w.alloc (.map #[] 0)) g 0 (fun _ => 0) := by
  subst hg; exact ⟨_, World.ownsMap_made _ _ _ _, fun s => by rfl⟩
theorem MapI.ext {w w' : World} {g n : Nat} {f : ByteArray → Int} (h : MapI w g n f) (e : Ext w w') : MapI w' g n f := by
  obtain ⟨D, ⟨es, clock, hb, r⟩, h2⟩ := h
  exact ⟨D, ⟨es, clock, e.block hb, r⟩, h2⟩
theorem MapI.look {w : World} {g n : Nat} {f : ByteArray → Int} (h : MapI w g n f) {s : ByteArray} (hs : s.size ≤ maxLen) : (Instr.lookup 42 (.map (some g)) (.string s) false).run Try.prog w = .ok (.int .i64 (f s)) w := by
  obtain ⟨D, hD, hf⟩ := h
  obtain ⟨c, hrun, hat, _⟩ := hD.lookup_int keyedS underSI underInt (zeroInt w) (key_of hs)
  rw [hf s] at hat
  injection hat with hat
  injection hat with _ hat
  rw [hrun, hat]

/-- 'm[s] = c' at the operation. -/
theorem wpList_mapI_put (w : World) {ops : Array Oper} {rest : List Oper} {o : Oper} {a : Act} {Q : Exit → Act → World → Prop}
    (hg : o.guard = none) (m x v : Operand) (hop : o.op = Op.mapUpdate 42 m x v) (b n : Nat) (f : ByteArray → Int)
    (hm : a.eval m = .map (some b)) (hown : MapI w b n f) (hn : n < maxLen) (s : ByteArray) (c : Int) (hx : a.eval x = .string s) (hv : a.eval v = .int .i64 c) (hs : s.size ≤ maxLen) (hc : (Lit.int .i64 c).wf = true)
    (hK : ∀ w', MapI w' b (n + 1) (fun t => if t = s then c else f t) → w.grownBy w' (some b) → wpList Try.prog ops Q rest (a.put o.dst undef) w') :
    wpList Try.prog ops Q (o :: rest) a w := by
  obtain ⟨D, hD, hf⟩ := hown
  refine wpList_mapUpdate_own w hg m x v 42 hop 9 3 keyedS underSI _ b n D hm hD hn _ _ _ hx hv (key_of hs) _ [] (plainElem_int underInt hc) (fun w' h1 h2 => hK w' ⟨_, h1, fun t => ?_⟩ h2)
  dsimp only
  by_cases h : t = s
  · subst h; rw [if_pos rfl]; exact atKey_put_same (k := kOf t) hD.isMap (by simp [kOf, WideAt.IsKeyLit]) _ _
  · rw [if_neg h, atKey_put_other (fun e => h (kOf_inj e))]; exact hf t
end Go.Proofs.Ytkkjhkmfoeblaaa

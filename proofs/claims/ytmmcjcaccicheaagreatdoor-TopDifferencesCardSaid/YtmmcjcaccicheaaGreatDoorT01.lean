/- Base Region: parts of the proof of TopDifferences, one text behind the other. No condition. -/
import Derived.Test.YtmmcjcaccicheaaGreatDoorRows
import Derived.WalkKit
import Derived.WalkLawsBesides
import Derived.WalkSpells
import Derived.Deep.QuietTactic
import Derived.BigQuiet
import Derived.Deep.DeepMust
import Derived.Deep.DeepFit
import Derived.Deep.Draws
import Derived.Deep.Slices
import Derived.Deep.Strs
import Derived.Deep.Fields
import Derived.Lib.Hide
import Derived.Lib.SmallJoins
import Derived.SliceStrings
import Derived.OrdersHeld
/- Plain laws on memory, for all proofs of this seat: new memory alone ('Ext'), the cells behind a slice ('Cells'), a slice of strings ('Strs'). No condition. -/
namespace Go.Proofs.YtmmcjcaccicheaaGreatDoor
open Go.RowKit

/-! ### New memory alone -/

/-- w' is w with new memory at most. -/
def Ext (w w' : World) : Prop := Below w.heap.size w w'

section
variable {w w' w'' : World}
theorem Ext.refl (w : World) : Ext w w := Below.refl _ _
theorem Ext.size (h : Ext w w') : w.heap.size ≤ w'.heap.size := Below.size h
theorem Ext.trans (h : Ext w w') (k : Ext w' w'') : Ext w w'' := Below.trans h (Below.mono k h.size)
theorem Ext.drew (h : Ext w w') : Ext w w'.drew := Below.drew h
theorem Ext.drewN (h : Ext w w') (n : Nat) : Ext w (w'.drewN n) := h.trans (Go.Joins.below_draws _ w' n)
theorem Ext.alloc (h : Ext w w') (o : Obj) : Ext w (w'.alloc o) := Below.alloc h h.size o
theorem Ext.setCell (h : Ext w w') {p : Addr} (hp : w.heap.size ≤ p.block) (u : Value) : Ext w (w'.setCell p u) := Below.setCell h hp u
theorem Ext.grown (h : Ext w w') {row : Option Nat} (hg : w'.grownBy w'' row) (hr : ∀ k, row = some k → w.heap.size ≤ k) : Ext w w'' := Below.grown h hg h.size hr
theorem Ext.below (h : Ext w w') {B : Nat} (hB : B ≤ w.heap.size) : Below B w w' := Below.mono h hB
theorem Ext.of (h : Below w.heap.size w w') : Ext w w' := h
theorem Ext.to (h : Ext w w') : Below w.heap.size w w' := h

theorem cell_lt {p : Addr} {v : Value} (hc : w.cell? p = some v) : p.block < w.heap.size := by
  rcases Nat.lt_or_ge p.block w.heap.size with h | h
  · exact h
  · simp [World.cell?, Array.getElem?_eq_none h] at hc

theorem Ext.cell (h : Ext w w') {p : Addr} {v : Value} (hc : w.cell? p = some v) : w'.cell? p = some v := (Below.cell h (cell_lt hc)).trans hc
theorem Ext.frozen (h : Ext w w') {p : Addr} (hp : p.block < w.heap.size) : w'.frozen? p = w.frozen? p := Below.frozen h hp
theorem Ext.block (h : Ext w w') {g : Nat} {o : Obj} (hb : w.heap[g]? = some o) : w'.heap[g]? = some o := by
  have : g < w.heap.size := by
    rcases Nat.lt_or_ge g w.heap.size with h | h
    · exact h
    · simp [Array.getElem?_eq_none h] at hb
  exact (Below.block h g this).trans hb
end

/-! ### A block that is known -/

/-- Block g is o. -/
def Blk (w : World) (g : Nat) (o : Obj) : Prop := w.heap[g]? = some o

section
variable {w w' : World} {g : Nat} {o : Obj}
theorem Blk.new (w : World) (o : Obj) {g : Nat} (hg : g = w.heap.size) : Blk (w.alloc o) g o := by subst hg; exact heap_alloc_new w o
theorem Blk.lt (h : Blk w g o) : g < w.heap.size := by
  rcases Nat.lt_or_ge g w.heap.size with hlt | hge
  · exact hlt
  · unfold Blk at h; rw [Array.getElem?_eq_none hge] at h; cases h
theorem Blk.alloc (h : Blk w g o) (o' : Obj) : Blk (w.alloc o') g o := (Below.heap_alloc w o' g h.lt).trans h
theorem Blk.drew (h : Blk w g o) : Blk w.drew g o := h
theorem Blk.ext (h : Blk w g o) (e : Ext w w') : Blk w' g o := Ext.block e h
theorem Blk.far (h : Blk w g o) {p : Addr} (hp : g ≠ p.block) (u : Value) : Blk (w.setCell p u) g o := (Below.heap_setCell w p u g hp).trans h
theorem Blk.cell {cs : Array Value} {t : TypeId} (h : Blk w g (.cells cs t (0, 0))) (i : Nat) : w.cell? ⟨g, i, none⟩ = cs[i]? := Go.Joins.cell_of_block h i
theorem Blk.free {cs : Array Value} {t : TypeId} (h : Blk w g (.cells cs t (0, 0))) (i : Nat) : w.frozen? ⟨g, i, none⟩ = false := Go.Joins.unfrozen_of_block h i
theorem Blk.put {cs : Array Value} {t : TypeId} {f : Nat × Nat} (h : Blk w g (.cells cs t f)) (i : Nat) (v : Value) : Blk (w.setCell ⟨g, i, none⟩ v) g (.cells (cs.setIfInBounds i v) t f) := Go.Joins.block_setCell h v
theorem Blk.set3 {t : TypeId} {x y z a b c : Value} (h : Blk w g (.cells #[x, y, z] t (0, 0))) : Blk (((w.setCell ⟨g, 0, none⟩ a).setCell ⟨g, 1, none⟩ b).setCell ⟨g, 2, none⟩ c) g (.cells #[a, b, c] t (0, 0)) := ((h.put 0 a).put 1 b).put 2 c
theorem Blk.far3 (h : Blk w g o) {k : Nat} (hk : g ≠ k) (a b c : Value) : Blk (((w.setCell ⟨k, 0, none⟩ a).setCell ⟨k, 1, none⟩ b).setCell ⟨k, 2, none⟩ c) g o := ((h.far (p := ⟨k, 0, none⟩) hk a).far (p := ⟨k, 1, none⟩) hk b).far (p := ⟨k, 2, none⟩) hk c
theorem Ext.set3 (h : Ext w w') {k : Nat} (hk : w.heap.size ≤ k) (a b c : Value) : Ext w (((w'.setCell ⟨k, 0, none⟩ a).setCell ⟨k, 1, none⟩ b).setCell ⟨k, 2, none⟩ c) := ((h.setCell (p := ⟨k, 0, none⟩) hk a).setCell (p := ⟨k, 1, none⟩) hk b).setCell (p := ⟨k, 2, none⟩) hk c
theorem Blk.cells3 {t : TypeId} {x y z : Value} (h : Blk w g (.cells #[x, y, z] t (0, 0))) : w.cell? ⟨g, 0, none⟩ = some x ∧ w.cell? ⟨g, 1, none⟩ = some y ∧ w.cell? ⟨g, 2, none⟩ = some z := ⟨h.cell 0, h.cell 1, h.cell 2⟩
theorem Blk.two3 {t : TypeId} {x y z : Value} (h : Blk w g (.cells #[x, y, z] t (0, 0))) : (∀ o1 o2, ((w.alloc o1).alloc o2).cell? ⟨g, 0, none⟩ = some x) ∧ (∀ o1 o2, ((w.alloc o1).alloc o2).cell? ⟨g, 1, none⟩ = some y) ∧ (∀ o1 o2, ((w.alloc o1).alloc o2).cell? ⟨g, 2, none⟩ = some z) :=
  ⟨fun o1 o2 => ((h.alloc o1).alloc o2).cell 0, fun o1 o2 => ((h.alloc o1).alloc o2).cell 1, fun o1 o2 => ((h.alloc o1).alloc o2).cell 2⟩
theorem Blk.free3 {t : TypeId} {cs : Array Value} (h : Blk w g (.cells cs t (0, 0))) : w.frozen? ⟨g, 0, none⟩ = false ∧ w.frozen? ⟨g, 1, none⟩ = false ∧ w.frozen? ⟨g, 2, none⟩ = false := ⟨h.free 0, h.free 1, h.free 2⟩
end

/-! ### Cells behind an address -/

/-- The cells xs lie from address A on; where there is none, nothing is asked. -/
def Cells (w : World) (A : Option Addr) (xs : List Value) : Prop :=
  xs = [] ∨ ∃ b off, A = some ⟨b, off, none⟩ ∧ ∀ j u, xs[j]? = some u → w.cell? ⟨b, off + j, none⟩ = some u

section
variable {w w' : World} {A : Option Addr} {xs : List Value}
theorem Cells.ext (h : Cells w A xs) (e : Ext w w') : Cells w' A xs := by
  rcases h with h | ⟨b, off, h1, h2⟩
  · exact .inl h
  · exact .inr ⟨b, off, h1, fun j u hu => e.cell (h2 j u hu)⟩
theorem Cells.nil (w : World) (A : Option Addr) : Cells w A [] := .inl rfl
theorem Cells.get (h : Cells w A xs) {k : Nat} (hk : k < xs.length) : ∃ b off, A = some ⟨b, off, none⟩ ∧ b < w.heap.size ∧ ∀ j u, xs[j]? = some u → w.cell? ⟨b, off + j, none⟩ = some u := by
  rcases h with h | ⟨b, off, h1, h2⟩
  · subst h; simp at hk
  · exact ⟨b, off, h1, cell_lt (h2 k xs[k] (List.getElem?_eq_getElem hk)), h2⟩
theorem Cells.of_add (a : Addr) (h : ∀ j u, xs[j]? = some u → w.cell? (a.add j) = some u) : Cells w (some a) xs := by
  cases xs with
  | nil => exact .inl rfl
  | cons x l =>
    obtain ⟨b, off, spot⟩ := a
    have h0 := h 0 x rfl
    have hs : spot = none := by simpa [Addr.add] using World.cell?_spot h0
    subst hs
    refine .inr ⟨b, off, rfl, fun j u hu => ?_⟩
    have := h j u hu
    unfold Addr.add at this
    by_cases hj : j = 0
    · subst hj; simpa using this
    · simpa [hj] using this
/-- The model's own address of 's[k:]'. -/
theorem Cells.cut (h : Cells w A xs) {k size cap : Nat} (hl : xs.length ≤ cap * size) :
    Cells w (if cap = k then A else A.map (·.add (k * size))) (xs.drop (k * size)) := by
  rcases h with h | ⟨b, off, h1, h2⟩
  · exact .inl (by simp [h])
  · subst h1
    by_cases hc : cap = k
    · exact .inl (List.drop_eq_nil_of_le (by subst hc; exact hl))
    · rw [if_neg hc]
      refine Cells.of_add _ fun j u hu => ?_
      rw [List.getElem?_drop] at hu
      have := h2 _ _ hu
      simp only [Addr.add]
      split
      · rename_i e; subst e
        split
        · rename_i e; simpa [e] using this
        · simpa using this
      · split
        · rename_i e; simpa [e, Nat.add_assoc] using this
        · simpa [Nat.add_assoc] using this
theorem Cells.take (h : Cells w A xs) (n : Nat) : Cells w A (xs.take n) := by
  rcases h with h | ⟨b, off, h1, h2⟩
  · exact .inl (by simp [h])
  · refine .inr ⟨b, off, h1, fun j u hu => h2 j u ?_⟩
    rw [List.getElem?_take] at hu
    split at hu
    · exact hu
    · cases hu
end

theorem Cells.new (W : World) (t : TypeId) (cs : List Value) {b : Nat} (hb : b = W.heap.size) : Cells (W.alloc (.cells cs.toArray t)) (some ⟨b, 0, none⟩) cs := by
  refine .inr ⟨b, 0, rfl, fun j u hu => ?_⟩
  rw [Go.Joins.cell_alloc_mark_at W _ t (0, 0) b (0 + j) hb]
  simpa using hu
/-- The greatest number of bytes that one value takes: the form's reach. -/
def Reach : Nat := 140737488351232

/-! ### A slice of strings -/

/-- From address A on lie the n strings ss, each within the reach. -/
def Strs (w : World) (A : Option Addr) (n : Nat) (ss : List ByteArray) : Prop :=
  ss.length = n ∧ (∀ s ∈ ss, s.size ≤ Reach) ∧ Cells w A (ss.map .string)

section
variable {w w' : World} {A : Option Addr} {n : Nat} {ss : List ByteArray}
theorem Strs.ext (h : Strs w A n ss) (e : Ext w w') : Strs w' A n ss := ⟨h.1, h.2.1, h.2.2.ext e⟩
theorem Strs.get (h : Strs w A n ss) {k : Nat} (hk : k < n) : ∃ b off s, A = some ⟨b, off, none⟩ ∧ b < w.heap.size ∧ ss[k]? = some s ∧ s.size ≤ Reach ∧ w.cell? ⟨b, off + k, none⟩ = some (.string s) := by
  have hl : k < ss.length := by rw [h.1]; exact hk
  obtain ⟨b, off, h1, h2, h3⟩ := h.2.2.get (k := k) (by simpa using hl)
  exact ⟨b, off, ss[k], h1, h2, List.getElem?_eq_getElem hl, h.2.1 _ (List.getElem_mem hl), h3 k _ (by simp [hl])⟩
theorem Strs.nil (w : World) (A : Option Addr) : Strs w A 0 [] := ⟨rfl, by simp, Cells.nil w _⟩
theorem Strs.of_blk {g : Nat} {t : TypeId} (h : Blk w g (.cells (ss.map Value.string).toArray t (0, 0))) (hn : ss.length = n) (hs : ∀ s ∈ ss, s.size ≤ Reach) : Strs w (some ⟨g, 0, none⟩) n ss := by
  refine ⟨hn, hs, .inr ⟨g, 0, rfl, fun j u hu => ?_⟩⟩
  rw [h.cell]
  simpa using hu
theorem Strs.len (h : Strs w A n ss) : ss.length = n := h.1
end

theorem getD_of {α : Type} {l : List α} {k : Nat} {x d : α} (h : l[k]? = some x) : l.getD k d = x := by simp [List.getD, h]
theorem take_succ_of {α : Type} {l : List α} {k : Nat} {x : α} (h : l[k]? = some x) : l.take (k + 1) = l.take k ++ [x] := by
  rw [List.take_add_one, h]; rfl

theorem drop_of {α : Type} {l : List α} {k : Nat} {x : α} (h : l[k]? = some x) : l.drop k = x :: l.drop (k + 1) := by
  obtain ⟨hk, rfl⟩ := List.getElem?_eq_some_iff.1 h
  exact List.drop_eq_getElem_cons hk
theorem ret_bool {a b : Bool} (h : a = b) : Ending.returned (.bool a) = .returned (.bool b) := by rw [h]
theorem ret_int {k : IntKind} {a b : Int} (h : a = b) : Ending.returned (.int k a) = .returned (.int k b) := by rw [h]
theorem toList_inj {s t : ByteArray} (h : s.toList = t.toList) : s = t := by
  cases s; cases t
  simp only [ByteArray.toList_eq] at h
  rw [Array.toList_inj.1 h]
theorem toList_eq {s t : ByteArray} (h : (!s.toList == t.toList) = false) : s = t := toList_inj (by simpa using h)

end Go.Proofs.YtmmcjcaccicheaaGreatDoor
/- A law for a region whose order is open: operations that yield one value in every world of a class T, and add new memory at most, are taken first, in an order of the prover's; what is left (a new variable, a store) is carried out in whatever order is left. No condition. -/
namespace Go.Proofs.YtmmcjcaccicheaaGreatDoor
open Go.RowKit

/-- The run of one operation yields v, and leaves new memory at most. -/
def Gives (P : Program) (v : Value) (w : World) : Result Next → Prop
  | .ok (.value u) w' => u = v ∧ Ext w w'
  | .ok .skip w' => v = undef ∧ Ext w w'
  | .ok (.enter f args) w' => Calls P f args w' fun e w'' => e = .returned v ∧ Ext w w''
  | _ => False

/-- What new memory keeps. -/
def Stab (S : World → Prop) : Prop := ∀ w w', Ext w w' → S w → S w'

theorem Stab.ext (W : World) : Stab (fun w => Ext W w) := fun _ _ e h => h.trans e
theorem Stab.cell (p : Addr) (v : Value) : Stab (fun w => w.cell? p = some v) := fun _ _ e h => e.cell h
theorem Stab.block (g : Nat) (o : Obj) : Stab (fun w => w.heap[g]? = some o) := fun _ _ e h => e.block h
theorem Stab.blk (g : Nat) (o : Obj) : Stab (fun w => Blk w g o) := fun _ _ e h => h.ext e
theorem Stab.and {S T : World → Prop} (h : Stab S) (k : Stab T) : Stab (fun w => S w ∧ T w) := fun w w' e x => ⟨h w w' e x.1, k w w' e x.2⟩
theorem Stab.size (n : Nat) : Stab (fun w => n ≤ w.heap.size) := fun _ _ e h => Nat.le_trans h e.size
theorem Stab.lt (n : Nat) : Stab (fun w => n < w.heap.size) := fun _ _ e h => Nat.lt_of_lt_of_le h e.size
theorem Stab.pure (p : Prop) : Stab (fun _ => p) := fun _ _ _ h => h

section
variable {P : Program} {ops : Array Oper} {Q : Exit → Act → World → Prop} {md : Region.Mode} {T : World → Prop}

theorem wp_of_gives {o : Oper} {v : Value} {a : Act} {w : World} {K : Act → World → Prop} (h : Gives P v w ((execOp a.eval o).run P w)) (hK : ∀ w', Ext w w' → K (a.put o.dst v) w') : o.wp P a w K Q := by
  unfold Oper.wp
  generalize (execOp a.eval o).run P w = r at *
  cases r with
  | ok n w' =>
    cases n <;> simp only [Gives] at h <;> simp only [Oper.upon]
    case value u => obtain ⟨rfl, e⟩ := h; exact hK _ e
    case skip => obtain ⟨rfl, e⟩ := h; exact hK _ e
    case enter f args => exact Calls.mono h fun e w'' ⟨he, e'⟩ => by subst he; exact hK _ e'
  | halt x w' => simp only [Gives] at h

/-- In state a, in every world of T, operation o leaves v in its temporary and new memory at most; or its guard says no. -/
def YieldsX (P : Program) (ops : Array Oper) (T : World → Prop) (o : Oper) (v : Value) (a : Act) : Prop :=
  (Region.wanted o (yielded ops a.tmps) = true ∧ ∀ w, T w → Gives P v w ((execOp a.eval o).run P w)) ∨
  (Region.wanted o (yielded ops a.tmps) = false ∧ v = undef)

theorem YieldsX.wpOp {i : Nat} {o : Oper} {v : Value} {a : Act} (hi : ops[i]? = some o) (hy : YieldsX P ops T o v a)
    {K : Act → World → Prop} {w : World} (hT : T w) (h : ∀ w', Ext w w' → K (a.put o.dst v) w') : wpOp P ops Q i K a w := by
  unfold Go.wpOp
  simp only [hi]
  rcases hy with ⟨hw, hv⟩ | ⟨hw, rfl⟩
  · simp only [hw, if_true]; exact .inl (wp_of_gives (hv w hT) h)
  · simp only [hw, Bool.false_eq_true, if_false]; exact h _ (Ext.refl _)

theorem YieldsX.of_same {o : Oper} {v : Value} {a a' : Act} (hy : YieldsX P ops T o v a) (he : execOp a'.eval o = execOp a.eval o)
    (hw : Region.wanted o (yielded ops a'.tmps) = Region.wanted o (yielded ops a.tmps)) : YieldsX P ops T o v a' := by
  unfold YieldsX at *
  rw [he, hw]
  exact hy

theorem wpOp_putX {j : Nat} {oi oj : Oper} {v : Value} (hj : ops[j]? = some oj) (hap : oi.apart ops oj = true)
    (hsi : ∀ cs b, oi.op ≠ .select cs b) (hsj : ∀ cs b, oj.op ≠ .select cs b)
    (hQ : ∀ c a w, Q (.panic c) (a.put oi.dst v) w → Q (.panic c) a w) {K : Act → World → Prop} {a : Act} {w : World}
    (hy : YieldsX P ops T oi v a) (h : wpOp P ops Q j K (a.put oi.dst v) w) :
    wpOp P ops Q j (fun a' w' => YieldsX P ops T oi v a' ∧ K (a'.put oi.dst v) w') a w := by
  obtain ⟨h1, h2, h3⟩ := Oper.apart_spec hap
  have keep : ∀ (a : Act), YieldsX P ops T oi v a → ∀ u, YieldsX P ops T oi v (a.put oj.dst u) := fun a hy u =>
    hy.of_same (execOp_put oi hsi a oj.dst u h3) (wanted_put oi a oj.dst u h3)
  have keepD : ∀ d, YieldsX P ops T oi v { a with defers := d :: a.defers } := fun d => hy.of_same rfl rfl
  unfold wpOp at *
  simp only [hj] at *
  rw [wanted_put oj a oi.dst v h1] at h
  split
  · rename_i hw
    simp only [hw, if_true] at h
    rcases h with h | ⟨hasks, hlets⟩
    case inr => exact .inr ⟨by unfold Oper.asks at *; rw [execOp_put oj hsj a oi.dst v h1] at hasks; exact hasks, hlets⟩
    refine .inl ?_
    unfold Oper.wp at *
    rw [execOp_put oj hsj a oi.dst v h1] at h
    generalize (execOp a.eval oj).run P w = r at *
    cases r with
    | ok n w' =>
      cases n <;> simp only [Oper.upon] at h ⊢
      case value u => exact ⟨keep a hy u, by rw [← Act.put_comm a v u h2]; exact h⟩
      case skip => exact ⟨keep a hy _, by rw [← Act.put_comm a v undef h2]; exact h⟩
      case defer d =>
        refine ⟨keep _ (keepD d) _, ?_⟩
        rw [← Act.put_comm _ v undef h2, ← Act.put_defers]
        exact h
      case enter f args =>
        refine Calls.mono h fun e w'' he => ?_
        cases e with
        | returned u => exact ⟨keep a hy u, by rw [← Act.put_comm a v u h2]; exact he⟩
        | panicked c => exact hQ _ _ _ he
        | outgrown => exact he
      case row row args => exact Rows.mono h fun u w'' he => ⟨keep a hy u, by rw [← Act.put_comm a v u h2]; exact he⟩
    | halt x w' =>
      cases x <;> simp only [Oper.upon] at h ⊢
      case panic u => exact hQ _ _ _ h
  · rename_i hw
    simp only [hw] at h
    exact ⟨keep a hy _, by rw [← Act.put_comm a v undef h2]; exact h⟩

/-- Whatever order is picked from here on: what is known of the world is S; T holds throughout. -/
def wpX (P : Program) (md : Region.Mode) (ops : Array Oper) (Q : Exit → Act → World → Prop) (T : World → Prop) : Nat → Array Bool → (World → Prop) → Act → Prop
  | 0, listed, S, a => Region.ready md ops listed = [] ∧ ∀ w, S w → Q .normal a w
  | fuel + 1, listed, S, a =>
    (Region.ready md ops listed = [] → ∀ w, S w → Q .normal a w) ∧
    ∀ i ∈ Region.ready md ops listed, ∀ w, S w →
      wpOp P ops Q i (fun a' w' => ∃ S' : World → Prop, Stab S' ∧ (∀ w, S' w → T w) ∧ S' w' ∧ wpX P md ops Q T fuel (listed.setIfInBounds i true) S' a') a w

theorem wpAny_of_X : ∀ (fuel : Nat) (listed : Array Bool) (S : World → Prop) (a : Act), wpX P md ops Q T fuel listed S a → ∀ w, S w → wpAny P md ops Q fuel listed a w
  | 0, _, _, _, h, w, hS => ⟨h.1, h.2 w hS⟩
  | fuel + 1, _, _, _, h, w, hS => ⟨fun hr => h.1 hr w hS, fun i hi => wpOp_mono (fun a' w' ⟨S', _, _, hS', hx⟩ => wpAny_of_X fuel _ S' a' hx w' hS') (h.2 i hi w hS)⟩

theorem wpX_first {i : Nat} {oi : Oper} {v : Value} (hi : ops[i]? = some oi) (hsel : ∀ (j : Nat) (o : Oper) cs b, ops[j]? = some o → o.op ≠ .select cs b)
    (hQ : ∀ c a w, Q (.panic c) (a.put oi.dst v) w → Q (.panic c) a w) :
    ∀ (fuel : Nat) (listed : Array Bool) (S : World → Prop) (a : Act),
      (∀ j oj, ops[j]? = some oj → j ≠ i → listed.getD j true = false → (∀ e ∈ oj.after, Region.binds md e = true → e.on ≠ i) → oi.apart ops oj = true) →
      i ∈ Region.ready md ops listed → YieldsX P ops T oi v a → Stab S → (∀ w, S w → T w) →
      wpX P md ops Q T fuel (listed.setIfInBounds i true) S (a.put oi.dst v) → wpX P md ops Q T (fuel + 1) listed S a := by
  intro fuel
  induction fuel with
  | zero =>
    intro listed S a _ hr hy hst hST H
    refine ⟨fun h => (by rw [h] at hr; cases hr), fun j hj w hS => ?_⟩
    by_cases hji : j = i
    · subst hji; exact hy.wpOp hi (hST w hS) fun w' e => ⟨S, hst, hST, hst _ _ e hS, H⟩
    · have := ready_mono hj hji
      rw [H.1] at this
      cases this
  | succ fuel ih =>
    intro listed S a hfree hr hy hst hST H
    refine ⟨fun h => (by rw [h] at hr; cases hr), fun j hj w hS => ?_⟩
    by_cases hji : j = i
    · subst hji; exact hy.wpOp hi (hST w hS) fun w' e => ⟨S, hst, hST, hst _ _ e hS, H⟩
    · have h1 := H.2 j (ready_mono hj hji) w hS
      obtain ⟨hjun, oj, hoj, hall⟩ := mem_ready.1 hj
      have hnot : ∀ e ∈ oj.after, Region.binds md e = true → e.on ≠ i := fun e he hb heq => by
        have h1 := hall e he hb
        have h0 := (mem_ready.1 hr).1
        rw [heq] at h1
        rcases Nat.lt_or_ge i listed.size with h' | h'
        · simp [h'] at h0 h1; rw [h0] at h1; cases h1
        · simp [Array.getElem?_eq_none h'] at h1
      have h2 := wpOp_putX hoj (hfree j oj hoj hji hjun hnot) (fun cs b => hsel i oi cs b hi) (fun cs b => hsel j oj cs b hoj) hQ hy h1
      have hfree' : ∀ k ok, ops[k]? = some ok → k ≠ i → (listed.setIfInBounds j true).getD k true = false →
          (∀ e ∈ ok.after, Region.binds md e = true → e.on ≠ i) → oi.apart ops ok = true := fun k ok hk hki hun hno => by
        refine hfree k ok hk hki ?_ hno
        by_cases hjk : j = k
        · subst hjk; exact hjun
        · rw [getD_set_ne true hjk] at hun; exact hun
      refine wpOp_mono (fun a' w' h3 => ?_) h2
      obtain ⟨hy', S', hst', hST', hS', H'⟩ := h3
      refine ⟨S', hst', hST', hS', ih (listed.setIfInBounds j true) S' a' hfree' (ready_mono hr (Ne.symm hji)) hy' hst' hST' ?_⟩
      rw [Array.setIfInBounds_comm _ _ hji]
      exact H'

/-- The i-th of a list, by steps. -/
def nth {α : Type} : List α → Nat → Option α
  | [], _ => none
  | x :: _, 0 => some x
  | _ :: l, n + 1 => nth l n
theorem nth_eq {α : Type} : ∀ (l : List α) (i : Nat), nth l i = l[i]?
  | [], _ => by simp [nth]
  | x :: l, 0 => by simp [nth]
  | x :: l, n + 1 => by simp [nth, nth_eq l n]

/-- Operations taken one behind the other, in an order of the prover's. -/
def wpTk (P : Program) (l : List Oper) (T : World → Prop) : List Nat → Act → (Act → Prop) → Prop
  | [], a, K => K a
  | i :: r, a, K => match nth l i with
    | none => False
    | some o => if Region.wanted o (yielded l.toArray a.tmps) then ∃ v, (∀ w, T w → Gives P v w ((execOp a.eval o).run P w)) ∧ wpTk P l T r (a.put o.dst v) K else wpTk P l T r (a.put o.dst undef) K

/-- May they be taken so? -/
def takesB (md : Region.Mode) (ops : Array Oper) : List Nat → Array Bool → Bool
  | [], _ => true
  | i :: r, listed => (Region.ready md ops listed).contains i && Region.free md ops listed i && takesB md ops r (listed.setIfInBounds i true)

def listAll : List Nat → Array Bool → Array Bool
  | [], l => l
  | i :: r, l => listAll r (l.setIfInBounds i true)

theorem wpTk_mono {l : List Oper} : ∀ (ks : List Nat) (a : Act) (K K' : Act → Prop), (∀ a, K a → K' a) → wpTk P l T ks a K → wpTk P l T ks a K'
  | [], _, _, _, hk, h => hk _ h
  | i :: r, a, K, K', hk, h => by
    simp only [wpTk] at *
    split
    · simp_all
    · rename_i o ho
      simp only [ho] at h
      split
      · rename_i hw
        simp only [hw, if_true] at h
        obtain ⟨v, hv, h⟩ := h
        exact ⟨v, hv, wpTk_mono r _ _ _ hk h⟩
      · rename_i hw
        simp only [hw] at h
        exact wpTk_mono r _ _ _ hk h

theorem wpX_takes {l : List Oper} (hs : Region.noSelect l.toArray = true) (hQ : ∀ c d v a w, Q (.panic c) (Act.put a d v) w → Q (.panic c) a w) {S : World → Prop} (hst : Stab S) (hST : ∀ w, S w → T w) {fuel : Nat} :
    ∀ (ks : List Nat) (listed : Array Bool) (a : Act), takesB md l.toArray ks listed = true → wpTk P l T ks a (wpX P md l.toArray Q T fuel (listAll ks listed) S) → wpX P md l.toArray Q T (ks.length + fuel) listed S a
  | [], _, _, _, h => by simpa [wpTk, listAll] using h
  | i :: r, listed, a, hB, h => by
    simp only [takesB, Bool.and_eq_true] at hB
    obtain ⟨⟨hr, hf⟩, hB'⟩ := hB
    simp only [wpTk] at h
    cases ho : nth l i with
    | none => simp [ho] at h
    | some o =>
      simp only [ho] at h
      have ho' : l.toArray[i]? = some o := by rw [nth_eq] at ho; simpa using ho
      have e : (i :: r).length + fuel = (r.length + fuel) + 1 := by simp; omega
      rw [e]
      by_cases hw : Region.wanted o (yielded l.toArray a.tmps) = true
      · simp only [hw, if_true] at h
        obtain ⟨v, hv, h⟩ := h
        exact wpX_first ho' (Region.noSelect_spec hs) (fun c a w => hQ c _ _ a w) _ _ _ _ (Region.free_spec ho' hf) (by simpa using hr) (.inl ⟨hw, hv⟩) hst hST (wpX_takes hs hQ hst hST r _ _ hB' h)
      · simp only [hw] at h
        exact wpX_first ho' (Region.noSelect_spec hs) (fun c a w => hQ c _ _ a w) _ _ _ _ (Region.free_spec ho' hf) (by simpa using hr) (.inr ⟨by simpa using hw, rfl⟩) hst hST (wpX_takes hs hQ hst hST r _ _ hB' h)

theorem wpTk_nil {l : List Oper} {a : Act} {K : Act → Prop} (h : K a) : wpTk P l T [] a K := h
theorem wpTk_want {l : List Oper} {i : Nat} {r : List Nat} {a : Act} {K : Act → Prop} {o : Oper} (ho : nth l i = some o) (hw : Region.wanted o (yielded l.toArray a.tmps) = true)
    (h : ∃ v, (∀ w, T w → Gives P v w ((execOp a.eval o).run P w)) ∧ wpTk P l T r (a.put o.dst v) K) : wpTk P l T (i :: r) a K := by
  simp only [wpTk, ho, hw, if_true]
  exact h
theorem wpTk_skip {l : List Oper} {i : Nat} {r : List Nat} {a : Act} {K : Act → Prop} {o : Oper} (ho : nth l i = some o) (hw : Region.wanted o (yielded l.toArray a.tmps) = false)
    (k : wpTk P l T r (a.put o.dst undef) K) : wpTk P l T (i :: r) a K := by
  simp only [wpTk, ho, hw, Bool.false_eq_true, if_false]
  exact k

/-- The beginning: a region that draws its order. -/
theorem wp_region_X {id : Nat} {a : Act} {w : World} (S : World → Prop) (hm : P.follows .mixedOrders = true) (hS : S w.drew) (h : wpX P .any ops Q T ops.size (Array.replicate ops.size false) S a) : (Code.region id ops true).wp P Q a w :=
  wp_region_any hm (wpAny_of_X _ _ _ _ h _ hS)

/-- Whichever comes up of those that may. -/
theorem wpX_all {rs : List Nat} {fuel : Nat} {listed : Array Bool} {S : World → Prop} {a : Act} (hr : Region.ready md ops listed = rs) (hne : rs ≠ [])
    (h : ∀ i ∈ rs, ∀ w, S w → wpOp P ops Q i (fun a' w' => ∃ S' : World → Prop, Stab S' ∧ (∀ w, S' w → T w) ∧ S' w' ∧ wpX P md ops Q T fuel (listed.setIfInBounds i true) S' a') a w) : wpX P md ops Q T (fuel + 1) listed S a :=
  ⟨fun h0 => absurd (hr ▸ h0) hne, hr ▸ h⟩
/-- All have come up. -/
theorem wpX_done {listed : Array Bool} {S : World → Prop} {a : Act} (hr : Region.ready md ops listed = []) (h : ∀ w, S w → Q .normal a w) : ∀ fuel, wpX P md ops Q T fuel listed S a
  | 0 => ⟨hr, h⟩
  | _ + 1 => ⟨fun _ => h, by rw [hr]; simp⟩
/-- One alone may come up: it is carried out. -/
theorem wpX_one {l : List Oper} (i : Nat) {o : Oper} {fuel : Nat} {listed : Array Bool} {S : World → Prop} {a : Act} (hr : Region.ready md l.toArray listed = [i]) (ho : nth l i = some o) (hg : o.guard = none)
    (h : ∀ w, S w → ∀ K : Act → World → Prop, (∀ a' w', (∃ S' : World → Prop, Stab S' ∧ (∀ w, S' w → T w) ∧ S' w' ∧ wpX P md l.toArray Q T fuel (listed.setIfInBounds i true) S' a') → K a' w') → Oper.wp P o a w K Q) : wpX P md l.toArray Q T (fuel + 1) listed S a :=
  wpX_all hr (by simp) fun j hj w hS => by
    obtain rfl : j = i := by simpa using hj
    have ho' : l.toArray[j]? = some o := by rw [nth_eq] at ho; simpa using ho
    unfold wpOp
    simp only [ho', Region.wanted, hg, if_true]
    exact .inl (h w hS _ fun _ _ h => h)

/-- Two new variables, in whatever order they are laid. -/
theorem wpX_alloc2 {l : List Oper} (i j : Nat) {oi oj : Oper} (z : Obj) {fuel : Nat} {listed : Array Bool} {S : World → Prop} {a : Act} (hr : Region.ready md l.toArray listed = [i, j])
    (hri : Region.ready md l.toArray (listed.setIfInBounds i true) = [j]) (hrj : Region.ready md l.toArray (listed.setIfInBounds j true) = [i]) (hij : i ≠ j)
    (hoi : nth l i = some oi) (hoj : nth l j = some oj) (hgi : oi.guard = none) (hgj : oj.guard = none) (hd : ∀ d, oi.dst = some d → oj.dst ≠ some d)
    (ri : ∀ (a : Act) (w : World), (execOp a.eval oi).run P w = .ok (.value (.pointer (some ⟨w.heap.size, 0, none⟩))) (w.alloc z))
    (rj : ∀ (a : Act) (w : World), (execOp a.eval oj).run P w = .ok (.value (.pointer (some ⟨w.heap.size, 0, none⟩))) (w.alloc z))
    (hst : Stab S) (hST : ∀ w, S w → T w)
    (h : ∀ (gi gj : Nat) (wx : World), S wx → wx.heap.size ≤ gi → wx.heap.size ≤ gj → gi ≠ gj →
      wpX P md l.toArray Q T fuel ((listed.setIfInBounds i true).setIfInBounds j true) (fun w => S w ∧ Blk w gi z ∧ Blk w gj z) ((a.put oi.dst (.pointer (some ⟨gi, 0, none⟩))).put oj.dst (.pointer (some ⟨gj, 0, none⟩)))) :
    wpX P md l.toArray Q T (fuel + 1 + 1) listed S a := by
  have hoi' : l.toArray[i]? = some oi := by rw [nth_eq] at hoi; simpa using hoi
  have hoj' : l.toArray[j]? = some oj := by rw [nth_eq] at hoj; simpa using hoj
  refine wpX_all hr (by simp) fun k hk w hS => ?_
  rcases (by simpa using hk : k = i ∨ k = j) with rfl | rfl
  · unfold wpOp
    simp only [hoi', Region.wanted, hgi, if_true]
    refine .inl ?_
    unfold Oper.wp
    rw [ri, Oper.upon_value]
    refine ⟨fun wy => S wy ∧ Blk wy w.heap.size z, hst.and (Stab.blk _ _), fun _ h => hST _ h.1, ⟨hst _ _ ((Ext.refl w).alloc z) hS, Blk.new w z rfl⟩, ?_⟩
    refine wpX_all hri (by simp) fun k' hk' wy hy => ?_
    obtain rfl : k' = j := by simpa using hk'
    unfold wpOp
    simp only [hoj', Region.wanted, hgj, if_true]
    refine .inl ?_
    unfold Oper.wp
    rw [rj, Oper.upon_value]
    have hlt := hy.2.lt
    exact ⟨fun wz => S wz ∧ Blk wz w.heap.size z ∧ Blk wz wy.heap.size z, hst.and ((Stab.blk _ _).and (Stab.blk _ _)), fun _ h => hST _ h.1, ⟨hst _ _ ((Ext.refl wy).alloc z) hy.1, hy.2.alloc z, Blk.new wy z rfl⟩,
      h w.heap.size wy.heap.size w hS (Nat.le_refl _) (by omega) (by omega)⟩
  · unfold wpOp
    simp only [hoj', Region.wanted, hgj, if_true]
    refine .inl ?_
    unfold Oper.wp
    rw [rj, Oper.upon_value]
    refine ⟨fun wy => S wy ∧ Blk wy w.heap.size z, hst.and (Stab.blk _ _), fun _ h => hST _ h.1, ⟨hst _ _ ((Ext.refl w).alloc z) hS, Blk.new w z rfl⟩, ?_⟩
    refine wpX_all hrj (by simp) fun k' hk' wy hy => ?_
    obtain rfl : k' = i := by simpa using hk'
    unfold wpOp
    simp only [hoi', Region.wanted, hgi, if_true]
    refine .inl ?_
    unfold Oper.wp
    rw [ri, Oper.upon_value]
    have hlt := hy.2.lt
    refine ⟨fun wz => S wz ∧ Blk wz wy.heap.size z ∧ Blk wz w.heap.size z, hst.and ((Stab.blk _ _).and (Stab.blk _ _)), fun _ h => hST _ h.1, ⟨hst _ _ ((Ext.refl wy).alloc z) hy.1, Blk.new wy z rfl, hy.2.alloc z⟩, ?_⟩
    have := h wy.heap.size w.heap.size w hS (by omega) (Nat.le_refl _) (by omega)
    rw [Array.setIfInBounds_comm _ _ hij, Act.put_comm a _ _ hd] at this
    exact this

/-- A region all of whose operations yield one value in every world of T: taken in the order of the text. -/
theorem wp_region_text {id : Nat} {l : List Oper} {a : Act} {w : World} (T : World → Prop) (ks : List Nat) (hm : P.follows .mixedOrders = true) (hst : Stab T) (hT : T w.drew)
    (hB : (Region.noSelect l.toArray && takesB .any l.toArray ks (Array.replicate l.length false) && (Region.ready .any l.toArray (listAll ks (Array.replicate l.length false))).isEmpty && (ks.length == l.length)) = true)
    (hQ : ∀ c d v a w, Q (.panic c) (Act.put a d v) w → Q (.panic c) a w)
    (h : wpTk P l T ks a fun a' => ∀ w', T w' → Q .normal a' w') : (Code.region id l.toArray true).wp P Q a w := by
  simp only [Bool.and_eq_true, beq_iff_eq] at hB
  obtain ⟨⟨⟨h1, h2⟩, h3⟩, h4⟩ := hB
  have := wpX_takes (P := P) (Q := Q) (T := T) (md := .any) (fuel := 0) h1 hQ hst (fun _ h => h) ks (Array.replicate l.length false) a h2
    (wpTk_mono _ _ _ _ (fun a' hk => wpX_done (by simpa using h3) hk 0) h)
  refine wp_region_X (T := T) T hm hT ?_
  simpa [h4] using this
end

section
variable (P : Program) (v : Value) (w : World)
theorem gives_ok : Gives P v w (.ok (.value v) w) := ⟨rfl, Ext.refl _⟩
theorem gives_value (u : Value) (w' : World) : Gives P v w (.ok (.value u) w') = (u = v ∧ Ext w w') := rfl
theorem gives_call {f : FuncId} {args : Array Value} {w' : World} (h : Calls P f args w' (fun e w'' => e = .returned v ∧ Ext w w'')) : Gives P v w (.ok (.enter f args) w') := h
theorem gives_enter (f : FuncId) (args : Array Value) (w' : World) : Gives P v w (.ok (.enter f args) w') = Calls P f args w' (fun e w'' => e = .returned v ∧ Ext w w'') := rfl
theorem gives_skip (w' : World) : Gives P v w (.ok .skip w') = (v = undef ∧ Ext w w') := rfl
end
attribute [irreducible] wpTk wpX Gives
end Go.Proofs.YtmmcjcaccicheaaGreatDoor

/- Laws: an append of one new element in a region that draws. No condition. -/
import Derived.Test.YtmmcjcaccicheaaAppend
namespace Go.Proofs.Ytmmcjcaccicheaa
open Go.RowKit
section
variable {P : Program}
theorem wpX_append_size {Q : Exit → Act → World → Prop} {T : World → Prop} {md : Region.Mode} {l : List Oper} (i : Nat) {o : Oper} {fuel : Nat} {listed : Array Bool} {S : World → Prop} {a : Act} (hr : Region.ready md l.toArray listed = [i]) (ho : nth l i = some o) (hg : o.guard = none)
    (s x : Operand) (t : TypeId) (hop : o.op = .call { callee := .builtin .append, args := #[s, x], argTypes := #[t, t] })
    (base : Nat) (e : TypeId) (inf : TypeInfo) (z : Value) (size bytes : Nat) (ht : P.underlying t = some (.slice e)) (hi : P.info? e = some inf) (hz : inf.zero = some z)
    (hsize : inf.size = size) (hby : inf.bytes = bytes) (hzs : z.cells.size = size) (hsz : 0 < size) (v : Value) (n : Nat) (xs : List Value) (A : Option Addr) (m c : Nat) (news : List Value)
    (hs : a.eval s = v) (hx : a.eval x = .slice A m c) (hl : news.length = m * size) (h1 : ∀ u ∈ news, u.oneCell' = true) (h63 : n + m ≤ maxLen) (hbytes : (n + m) * bytes ≤ 140737488355328)
    (hS : ∀ w, S w → w.ownsRow base e size v n xs ∧ Cells w A news ∧ base ≤ w.heap.size)
    (h : ∀ w, S w → ∀ v' w', w'.ownsRow base e size v' (n + m) (xs ++ news) → w.grownBy w' v.ownBlock →
      ∃ S' : World → Prop, Stab S' ∧ (∀ w, S' w → T w) ∧ S' w' ∧ wpX P md l.toArray Q T fuel (listed.setIfInBounds i true) S' (a.put o.dst v')) : wpX P md l.toArray Q T (fuel + 1) listed S a := by
  refine wpX_one i hr ho hg fun w hw K hK => ?_
  obtain ⟨h2, h3, h4⟩ := hS w hw
  obtain ⟨v', w', hrun, hown, hgrow⟩ := run_append_size (P := P) (w := w) base t o.type e inf z size bytes ht hi hz hsize hby hzs hsz v n xs h2 A m c news hl h3 h1 h63 hbytes h4
  unfold Oper.wp
  simp [execOp, hop, resolve, invoke, builtin, hs, hx, hrun, Result.andThen]
  exact hK _ _ (h w hw v' w' hown hgrow)

/-- A slice of one new element, and its append: the two come up one after the other. -/
theorem wpX_push {Q : Exit → Act → World → Prop} {T : World → Prop} {md : Region.Mode} {l : List Oper} (i j : Nat) {oi o : Oper} {fuel : Nat} {listed : Array Bool} {S : World → Prop} {a : Act}
    (hri : Region.ready md l.toArray listed = [i]) (hoi : nth l i = some oi) (hgi : oi.guard = none)
    (hr : Region.ready md l.toArray (listed.setIfInBounds i true) = [j]) (ho : nth l j = some o) (hg : o.guard = none)
    (s x : Operand) (t : TypeId) (hop : o.op = .call { callee := .builtin .append, args := #[s, x], argTypes := #[t, t] })
    (base : Nat) (e : TypeId) (inf : TypeInfo) (z : Value) (size bytes : Nat) (ht : P.underlying t = some (.slice e)) (hi : P.info? e = some inf) (hz : inf.zero = some z)
    (hsize : inf.size = size) (hby : inf.bytes = bytes) (hzs : z.cells.size = size) (hsz : 0 < size) (v : Value) (n : Nat) (xs news : List Value)
    (hbuild : ∀ w, (execOp a.eval oi).run P w = .ok (.value (.slice (some ⟨w.heap.size, 0, none⟩) 1 1)) (w.alloc (.cells news.toArray e)))
    (hs : ∀ g, (a.put oi.dst (.slice (some ⟨g, 0, none⟩) 1 1)).eval s = v) (hx : ∀ g, (a.put oi.dst (.slice (some ⟨g, 0, none⟩) 1 1)).eval x = .slice (some ⟨g, 0, none⟩) 1 1)
    (hl : news.length = 1 * size) (h1 : ∀ u ∈ news, u.oneCell' = true) (h63 : n + 1 ≤ maxLen) (hbytes : (n + 1) * bytes ≤ 140737488355328)
    (hst : Stab S) (hST : ∀ w, S w → T w) (hS : ∀ w, S w → w.ownsRow base e size v n xs ∧ base ≤ w.heap.size)
    (h : ∀ g w, S w → ∀ v' w', w'.ownsRow base e size v' (n + 1) (xs ++ news) → w.grownBy w' v.ownBlock →
      ∃ S' : World → Prop, Stab S' ∧ (∀ w, S' w → T w) ∧ S' w' ∧ wpX P md l.toArray Q T fuel ((listed.setIfInBounds i true).setIfInBounds j true) S' ((a.put oi.dst (.slice (some ⟨g, 0, none⟩) 1 1)).put o.dst v')) : wpX P md l.toArray Q T (fuel + 1 + 1) listed S a := by
  refine wpX_one i hri hoi hgi fun w hw K hK => ?_
  unfold Oper.wp
  rw [hbuild, Oper.upon_value]
  refine hK _ _ ⟨fun wy => S wy ∧ Blk wy w.heap.size (.cells news.toArray e), hst.and (Stab.blk _ _), fun _ h => hST _ h.1, ⟨hst _ _ ((Ext.refl w).alloc _) hw, Blk.new w _ rfl⟩, ?_⟩
  refine wpX_append_size j hr ho hg s x t hop base e inf z size bytes ht hi hz hsize hby hzs hsz v n xs (some ⟨w.heap.size, 0, none⟩) 1 1 news (hs _) (hx _) hl h1 h63 hbytes
    (fun wy hy => ⟨(hS wy hy.1).1, .inr ⟨_, 0, rfl, fun k u hu => by rw [hy.2.cell]; simpa using hu⟩, (hS wy hy.1).2⟩) (fun wy hy v' w' ho hg => h _ wy hy.1 v' w' ho hg)

/-- Two may come up. -/
theorem wpX_two {Q : Exit → Act → World → Prop} {T : World → Prop} {md : Region.Mode} {l : List Oper} (i j : Nat) {oi oj : Oper} {fuel : Nat} {listed : Array Bool} {S : World → Prop} {a : Act}
    (hr : Region.ready md l.toArray listed = [i, j]) (hoi : nth l i = some oi) (hgi : oi.guard = none) (hoj : nth l j = some oj) (hgj : oj.guard = none)
    (hi : ∀ w, S w → ∀ K : Act → World → Prop, (∀ a' w', (∃ S' : World → Prop, Stab S' ∧ (∀ w, S' w → T w) ∧ S' w' ∧ wpX P md l.toArray Q T fuel (listed.setIfInBounds i true) S' a') → K a' w') → Oper.wp P oi a w K Q)
    (hj : ∀ w, S w → ∀ K : Act → World → Prop, (∀ a' w', (∃ S' : World → Prop, Stab S' ∧ (∀ w, S' w → T w) ∧ S' w' ∧ wpX P md l.toArray Q T fuel (listed.setIfInBounds j true) S' a') → K a' w') → Oper.wp P oj a w K Q) : wpX P md l.toArray Q T (fuel + 1) listed S a := by
  have hoi' : l.toArray[i]? = some oi := by rw [nth_eq] at hoi; simpa using hoi
  have hoj' : l.toArray[j]? = some oj := by rw [nth_eq] at hoj; simpa using hoj
  refine wpX_all hr (by simp) fun k hk w hS => ?_
  rcases (by simpa using hk : k = i ∨ k = j) with rfl | rfl
  · unfold wpOp
    simp only [hoi', Region.wanted, hgi, if_true]
    exact .inl (hi w hS _ fun _ _ h => h)
  · unfold wpOp
    simp only [hoj', Region.wanted, hgj, if_true]
    exact .inl (hj w hS _ fun _ _ h => h)
end
end Go.Proofs.Ytmmcjcaccicheaa

/- The law for a region whose order is open, once more: the facts T, on which the operations that are taken first rest, need not hold once operation s, which waits for them all, is done. No condition. -/
import Derived.Test.YtmmcjcaccicheaaHiApp
namespace Go.Proofs.Ytmmcjcaccicheaa
open Go.RowKit
section
variable {P : Program} {ops : Array Oper} {Q : Exit → Act → World → Prop} {md : Region.Mode} {T : World → Prop} {s : Nat}
/-- Whatever order is picked from here on: what is known of the world is S; T holds until s is done. -/
def wpY (P : Program) (md : Region.Mode) (ops : Array Oper) (Q : Exit → Act → World → Prop) (s : Nat) (T : World → Prop) : Nat → Array Bool → (World → Prop) → Act → Prop
  | 0, listed, S, a => Region.ready md ops listed = [] ∧ ∀ w, S w → Q .normal a w
  | fuel + 1, listed, S, a =>
    (Region.ready md ops listed = [] → ∀ w, S w → Q .normal a w) ∧
    ∀ i ∈ Region.ready md ops listed, ∀ w, S w →
      wpOp P ops Q i (fun a' w' => ∃ S' : World → Prop, Stab S' ∧ (i ≠ s → ∀ w, S' w → T w) ∧ S' w' ∧ wpY P md ops Q s T fuel (listed.setIfInBounds i true) S' a') a w

theorem wpAny_of_Y : ∀ (fuel : Nat) (listed : Array Bool) (S : World → Prop) (a : Act), wpY P md ops Q s T fuel listed S a → ∀ w, S w → wpAny P md ops Q fuel listed a w
  | 0, _, _, _, h, w, hS => ⟨h.1, h.2 w hS⟩
  | fuel + 1, _, _, _, h, w, hS => ⟨fun hr => h.1 hr w hS, fun i hi => wpOp_mono (fun a' w' ⟨S', _, _, hS', hx⟩ => wpAny_of_Y fuel _ S' a' hx w' hS') (h.2 i hi w hS)⟩

/-- Does operation s wait for operation i? -/
def awaits (md : Region.Mode) (ops : Array Oper) (s i : Nat) : Bool := match ops[s]? with
  | none => true
  | some o => o.after.any fun e => Region.binds md e && e.on == i

theorem wpY_first {i : Nat} {oi : Oper} {v : Value} (hi : ops[i]? = some oi) (hsel : ∀ (j : Nat) (o : Oper) cs b, ops[j]? = some o → o.op ≠ .select cs b)
    (hQ : ∀ c a w, Q (.panic c) (a.put oi.dst v) w → Q (.panic c) a w) (hsi : awaits md ops s i = true) (hne : i ≠ s) :
    ∀ (fuel : Nat) (listed : Array Bool) (S : World → Prop) (a : Act),
      (∀ j oj, ops[j]? = some oj → j ≠ i → listed.getD j true = false → (∀ e ∈ oj.after, Region.binds md e = true → e.on ≠ i) → oi.apart ops oj = true) →
      i ∈ Region.ready md ops listed → YieldsX P ops T oi v a → Stab S → (∀ w, S w → T w) →
      wpY P md ops Q s T fuel (listed.setIfInBounds i true) S (a.put oi.dst v) → wpY P md ops Q s T (fuel + 1) listed S a := by
  intro fuel
  induction fuel with
  | zero =>
    intro listed S a _ hr hy hst hST H
    refine ⟨fun h => (by rw [h] at hr; cases hr), fun j hj w hS => ?_⟩
    by_cases hji : j = i
    · subst hji; exact hy.wpOp hi (hST w hS) fun w' e => ⟨S, hst, fun _ => hST, hst _ _ e hS, H⟩
    · have := ready_mono hj hji
      rw [H.1] at this
      cases this
  | succ fuel ih =>
    intro listed S a hfree hr hy hst hST H
    refine ⟨fun h => (by rw [h] at hr; cases hr), fun j hj w hS => ?_⟩
    by_cases hji : j = i
    · subst hji; exact hy.wpOp hi (hST w hS) fun w' e => ⟨S, hst, fun _ => hST, hst _ _ e hS, H⟩
    · have h1 := H.2 j (ready_mono hj hji) w hS
      obtain ⟨hjun, oj, hoj, hall⟩ := mem_ready.1 hj
      have hnot : ∀ e ∈ oj.after, Region.binds md e = true → e.on ≠ i := fun e he hb heq => by
        have h1 := hall e he hb
        have h0 := (mem_ready.1 hr).1
        rw [heq] at h1
        rcases Nat.lt_or_ge i listed.size with h' | h'
        · simp [h'] at h0 h1; rw [h0] at h1; cases h1
        · simp [Array.getElem?_eq_none h'] at h1
      have hjs : j ≠ s := fun e => by
        subst e
        unfold awaits at hsi
        rw [hoj] at hsi
        simp only [Array.any_eq_true', Bool.and_eq_true, beq_iff_eq] at hsi
        obtain ⟨e, he, hb, ho⟩ := hsi
        exact hnot e he hb ho
      have h2 := wpOp_putX hoj (hfree j oj hoj hji hjun hnot) (fun cs b => hsel i oi cs b hi) (fun cs b => hsel j oj cs b hoj) hQ hy h1
      have hfree' : ∀ k ok, ops[k]? = some ok → k ≠ i → (listed.setIfInBounds j true).getD k true = false →
          (∀ e ∈ ok.after, Region.binds md e = true → e.on ≠ i) → oi.apart ops ok = true := fun k ok hk hki hun hno => by
        refine hfree k ok hk hki ?_ hno
        by_cases hjk : j = k
        · subst hjk; exact hjun
        · rw [getD_set_ne true hjk] at hun; exact hun
      refine wpOp_mono (fun a' w' h3 => ?_) h2
      obtain ⟨hy', S', hst', hST', hS', H'⟩ := h3
      refine ⟨S', hst', hST', hS', ih (listed.setIfInBounds j true) S' a' hfree' (ready_mono hr (Ne.symm hji)) hy' hst' (hST' hjs) ?_⟩
      rw [Array.setIfInBounds_comm _ _ hji]
      exact H'

theorem wpY_takes {l : List Oper} (hs : Region.noSelect l.toArray = true) (hQ : ∀ c d v a w, Q (.panic c) (Act.put a d v) w → Q (.panic c) a w) {S : World → Prop} (hst : Stab S) (hST : ∀ w, S w → T w) {fuel : Nat} :
    ∀ (ks : List Nat) (listed : Array Bool) (a : Act), takesB md l.toArray ks listed = true → ks.all (fun i => awaits md l.toArray s i && i != s) = true → wpTk P l T ks a (wpY P md l.toArray Q s T fuel (listAll ks listed) S) → wpY P md l.toArray Q s T (ks.length + fuel) listed S a
  | [], _, _, _, _, h => by simpa [wpTk, listAll] using h
  | i :: r, listed, a, hB, hA, h => by
    simp only [takesB, Bool.and_eq_true] at hB
    obtain ⟨⟨hr, hf⟩, hB'⟩ := hB
    rw [List.all_cons, Bool.and_eq_true, Bool.and_eq_true] at hA
    obtain ⟨⟨hA1, hA2⟩, hA'⟩ := hA
    have hne : i ≠ s := by simpa using hA2
    simp only [wpTk] at h
    cases ho : nth l i with
    | none => simp [ho] at h
    | some o =>
      simp only [ho] at h
      have ho' : l.toArray[i]? = some o := by rw [nth_eq] at ho; simpa using ho
      have e : (i :: r).length + fuel = (r.length + fuel) + 1 := by simp; omega
      rw [e]
      by_cases hw : Region.wanted o (yielded l.toArray a.tmps) = true
      · simp only [hw, if_true] at h
        obtain ⟨v, hv, h⟩ := h
        exact wpY_first ho' (Region.noSelect_spec hs) (fun c a w => hQ c _ _ a w) hA1 hne _ _ _ _ (Region.free_spec ho' hf) (by simpa using hr) (.inl ⟨hw, hv⟩) hst hST (wpY_takes hs hQ hst hST r _ _ hB' hA' h)
      · simp only [hw] at h
        exact wpY_first ho' (Region.noSelect_spec hs) (fun c a w => hQ c _ _ a w) hA1 hne _ _ _ _ (Region.free_spec ho' hf) (by simpa using hr) (.inr ⟨by simpa using hw, rfl⟩) hst hST (wpY_takes hs hQ hst hST r _ _ hB' hA' h)

theorem wp_region_Y {id : Nat} {a : Act} {w : World} (s : Nat) (T S : World → Prop) (hm : P.follows .mixedOrders = true) (hS : S w.drew) (h : wpY P .any ops Q s T ops.size (Array.replicate ops.size false) S a) : (Code.region id ops true).wp P Q a w :=
  wp_region_any hm (wpAny_of_Y _ _ _ _ h _ hS)
theorem wpY_done {listed : Array Bool} {S : World → Prop} {a : Act} (hr : Region.ready md ops listed = []) (h : ∀ w, S w → Q .normal a w) : ∀ fuel, wpY P md ops Q s T fuel listed S a
  | 0 => ⟨hr, h⟩
  | _ + 1 => ⟨fun _ => h, by rw [hr]; simp⟩
theorem wpY_one {l : List Oper} (i : Nat) {o : Oper} {fuel : Nat} {listed : Array Bool} {S : World → Prop} {a : Act} (hr : Region.ready md l.toArray listed = [i]) (ho : nth l i = some o) (hg : o.guard = none)
    (h : ∀ w, S w → ∀ K : Act → World → Prop, (∀ a' w', (∃ S' : World → Prop, Stab S' ∧ (i ≠ s → ∀ w, S' w → T w) ∧ S' w' ∧ wpY P md l.toArray Q s T fuel (listed.setIfInBounds i true) S' a') → K a' w') → Oper.wp P o a w K Q) : wpY P md l.toArray Q s T (fuel + 1) listed S a := by
  refine ⟨fun h0 => absurd (hr ▸ h0) (by simp), hr ▸ fun j hj w hS => ?_⟩
  obtain rfl : j = i := by simpa using hj
  have ho' : l.toArray[j]? = some o := by rw [nth_eq] at ho; simpa using ho
  unfold wpOp
  simp only [ho', Region.wanted, hg, if_true]
  exact .inl (h w hS _ fun _ _ h => h)
/-- A slice of one new element, and its append: the two come up one after the other. -/
theorem wpY_push {l : List Oper} (i j : Nat) {oi o : Oper} {fuel : Nat} {listed : Array Bool} {S : World → Prop} {a : Act}
    (hri : Region.ready md l.toArray listed = [i]) (hoi : nth l i = some oi) (hgi : oi.guard = none)
    (hr : Region.ready md l.toArray (listed.setIfInBounds i true) = [j]) (ho : nth l j = some o) (hg : o.guard = none)
    (sl x : Operand) (t : TypeId) (hop : o.op = .call { callee := .builtin .append, args := #[sl, x], argTypes := #[t, t] })
    (base : Nat) (e : TypeId) (inf : TypeInfo) (z : Value) (size bytes : Nat) (ht : P.underlying t = some (.slice e)) (hi : P.info? e = some inf) (hz : inf.zero = some z)
    (hsize : inf.size = size) (hby : inf.bytes = bytes) (hzs : z.cells.size = size) (hsz : 0 < size) (v : Value) (n : Nat) (xs news : List Value)
    (hbuild : ∀ w, (execOp a.eval oi).run P w = .ok (.value (.slice (some ⟨w.heap.size, 0, none⟩) 1 1)) (w.alloc (.cells news.toArray e)))
    (hs : ∀ g, (a.put oi.dst (.slice (some ⟨g, 0, none⟩) 1 1)).eval sl = v) (hx : ∀ g, (a.put oi.dst (.slice (some ⟨g, 0, none⟩) 1 1)).eval x = .slice (some ⟨g, 0, none⟩) 1 1)
    (hl : news.length = 1 * size) (h1 : ∀ u ∈ news, u.oneCell' = true) (h63 : n + 1 ≤ maxLen) (hbytes : (n + 1) * bytes ≤ 140737488355328)
    (hst : Stab S) (hST : ∀ w, S w → T w) (hS : ∀ w, S w → w.ownsRow base e size v n xs ∧ base ≤ w.heap.size)
    (h : ∀ g w, S w → ∀ v' w', w'.ownsRow base e size v' (n + 1) (xs ++ news) → w.grownBy w' v.ownBlock → (v'.ownBlock = v.ownBlock ∨ ∃ g, v'.ownBlock = some g ∧ w.heap.size ≤ g) →
      ∃ S' : World → Prop, Stab S' ∧ (j ≠ s → ∀ w, S' w → T w) ∧ S' w' ∧ wpY P md l.toArray Q s T fuel ((listed.setIfInBounds i true).setIfInBounds j true) S' ((a.put oi.dst (.slice (some ⟨g, 0, none⟩) 1 1)).put o.dst v')) : wpY P md l.toArray Q s T (fuel + 1 + 1) listed S a := by
  refine wpY_one i hri hoi hgi fun w hw K hK => ?_
  unfold Oper.wp
  rw [hbuild, Oper.upon_value]
  refine hK _ _ ⟨fun wy => S wy ∧ Blk wy w.heap.size (.cells news.toArray e), hst.and (Stab.blk _ _), fun _ _ h => hST _ h.1, ⟨hst _ _ ((Ext.refl w).alloc _) hw, Blk.new w _ rfl⟩, ?_⟩
  refine wpY_one j hr ho hg fun wy hy K' hK' => ?_
  obtain ⟨h2, h4⟩ := hS wy hy.1
  obtain ⟨v', w', hrun, hown, hgrow, hblk⟩ := run_append_size2 (P := P) (w := wy) base t o.type e inf z size bytes ht hi hz hsize hby hzs hsz v n xs h2 (some ⟨w.heap.size, 0, none⟩) 1 1 news hl (.inr ⟨_, 0, rfl, fun k u hu => by rw [hy.2.cell]; simpa using hu⟩) h1 h63 hbytes h4
  have e1 := hs w.heap.size
  have e2 := hx w.heap.size
  unfold Oper.wp
  simp [execOp, hop, resolve, invoke, builtin, e1, e2, hrun, Result.andThen]
  exact hK' _ _ (h _ wy hy.1 v' w' hown hgrow hblk)
end
attribute [irreducible] wpY
end Go.Proofs.Ytmmcjcaccicheaa

/- UdReg: parts of the proof of TopDifferences, one text behind the other. No condition. -/
import Derived.Test.YtmmcjcaccicheaaGreatDoorT08
/- The law for a region whose order is open, once more: the facts T, on which the operations that are taken first rest, need not hold once operation s, which waits for them all (by itself, or through others), is done. No condition. -/
namespace Go.Proofs.YtmmcjcaccicheaaGreatDoor
open Go.RowKit
section
variable {P : Program} {ops : Array Oper} {Q : Exit → Act → World → Prop} {md : Region.Mode} {T : World → Prop} {s : Nat}
/-- Whatever order is picked from here on: what is known of the world is S; T holds until s is done. -/
def wpY (P : Program) (md : Region.Mode) (ops : Array Oper) (Q : Exit → Act → World → Prop) (s : Nat) (T : World → Prop) : Nat → Array Bool → (World → Prop) → Act → Prop
  | 0, listed, S, a => Region.ready md ops listed = [] ∧ ∀ w, S w → Q .normal a w
  | fuel + 1, listed, S, a =>
    (Region.ready md ops listed = [] → ∀ w, S w → Q .normal a w) ∧
    ∀ i ∈ Region.ready md ops listed, ∀ w, S w →
      wpOp P ops Q i (fun a' w' => ∃ S' : World → Prop, Stab S' ∧ ((listed.setIfInBounds i true).getD s true = true ∨ ∀ w, S' w → T w) ∧ S' w' ∧ wpY P md ops Q s T fuel (listed.setIfInBounds i true) S' a') a w

theorem wpAny_of_Y : ∀ (fuel : Nat) (listed : Array Bool) (S : World → Prop) (a : Act), wpY P md ops Q s T fuel listed S a → ∀ w, S w → wpAny P md ops Q fuel listed a w
  | 0, _, _, _, h, w, hS => ⟨h.1, h.2 w hS⟩
  | fuel + 1, _, _, _, h, w, hS => ⟨fun hr => h.1 hr w hS, fun i hi => wpOp_mono (fun a' w' ⟨S', _, _, hS', hx⟩ => wpAny_of_Y fuel _ S' a' hx w' hS') (h.2 i hi w hS)⟩

/-- Does operation s wait for operation i, by itself or through others? -/
def awaits (md : Region.Mode) (ops : Array Oper) : Nat → Nat → Nat → Bool
  | 0, _, _ => false
  | f + 1, s, i => match ops[s]? with
    | none => false
    | some o => o.after.any fun e => Region.binds md e && (e.on == i || awaits md ops f e.on i)
/-- Whatever is done has waited. -/
def Waited (md : Region.Mode) (ops : Array Oper) (listed : Array Bool) : Prop :=
  ∀ (k : Nat) (o : Oper), ops[k]? = some o → listed.getD k false = true → ∀ e ∈ o.after, Region.binds md e = true → listed.getD e.on false = true
theorem getD_two {l : Array Bool} {i : Nat} (h : l.getD i true = false) : l.getD i false = false := by
  rcases Nat.lt_or_ge i l.size with h' | h'
  · simp [h'] at h ⊢; exact h
  · simp [Array.getElem?_eq_none h'] at h
theorem Waited.start (n : Nat) : Waited md ops (Array.replicate n false) := fun k _ _ h => by
  exfalso
  rcases Nat.lt_or_ge k n with h' | h'
  · simp [h'] at h
  · rw [Array.getD_eq_getD_getElem?, Array.getElem?_eq_none (by simpa using h')] at h; cases h
theorem Waited.add {listed : Array Bool} {j : Nat} (h : Waited md ops listed) (hj : j ∈ Region.ready md ops listed) : Waited md ops (listed.setIfInBounds j true) := by
  obtain ⟨hju, oj, hoj, hall⟩ := mem_ready.1 hj
  intro k o hk hl e he hb
  have old : listed.getD e.on false = true := by
    by_cases hjk : j = k
    · subst hjk
      rw [hoj] at hk; cases hk
      exact hall e he hb
    · rw [getD_set_ne false hjk] at hl
      exact h k o hk hl e he hb
  by_cases hje : j = e.on
  · subst hje; exact absurd old (by rw [getD_two hju]; simp)
  · rw [getD_set_ne false hje]; exact old
theorem awaits_listed {listed : Array Bool} (h : Waited md ops listed) {i : Nat} : ∀ (f k : Nat), listed.getD k false = true → awaits md ops f k i = true → listed.getD i false = true
  | 0, _, _, ha => by cases ha
  | f + 1, k, hk, ha => by
    unfold awaits at ha
    cases ho : ops[k]? with
    | none => rw [ho] at ha; cases ha
    | some o =>
      rw [ho] at ha
      simp only [Array.any_eq_true', Bool.and_eq_true, Bool.or_eq_true, beq_iff_eq] at ha
      obtain ⟨e, he, hb, hon⟩ := ha
      have h1 := h k o ho hk e he hb
      rcases hon with hon | hon
      · rw [← hon]; exact h1
      · exact awaits_listed h f e.on h1 hon
theorem awaits_ready {listed : Array Bool} (h : Waited md ops listed) {i k : Nat} (hk : k ∈ Region.ready md ops listed) : ∀ (f : Nat), awaits md ops f k i = true → listed.getD i false = true
  | 0, ha => by cases ha
  | f + 1, ha => by
    obtain ⟨_, o, ho, hall⟩ := mem_ready.1 hk
    unfold awaits at ha
    rw [ho] at ha
    simp only [Array.any_eq_true', Bool.and_eq_true, Bool.or_eq_true, beq_iff_eq] at ha
    obtain ⟨e, he, hb, hon⟩ := ha
    have h1 := hall e he hb
    rcases hon with hon | hon
    · rw [← hon]; exact h1
    · exact awaits_listed h f e.on h1 hon

theorem wpY_first {i : Nat} {oi : Oper} {v : Value} (hi : ops[i]? = some oi) (hsel : ∀ (j : Nat) (o : Oper) cs b, ops[j]? = some o → o.op ≠ .select cs b)
    (hQ : ∀ c a w, Q (.panic c) (a.put oi.dst v) w → Q (.panic c) a w) (hsi : awaits md ops 20 s i = true) (hne : i ≠ s) :
    ∀ (fuel : Nat) (listed : Array Bool) (S : World → Prop) (a : Act), Waited md ops listed → listed.size = ops.size →
      (∀ j oj, ops[j]? = some oj → j ≠ i → listed.getD j true = false → (∀ e ∈ oj.after, Region.binds md e = true → e.on ≠ i) → oi.apart ops oj = true) →
      i ∈ Region.ready md ops listed → YieldsX P ops T oi v a → Stab S → (∀ w, S w → T w) →
      wpY P md ops Q s T fuel (listed.setIfInBounds i true) S (a.put oi.dst v) → wpY P md ops Q s T (fuel + 1) listed S a := by
  intro fuel
  induction fuel with
  | zero =>
    intro listed S a _ _ _ hr hy hst hST H
    refine ⟨fun h => (by rw [h] at hr; cases hr), fun j hj w hS => ?_⟩
    by_cases hji : j = i
    · subst hji; exact hy.wpOp hi (hST w hS) fun w' e => ⟨S, hst, .inr hST, hst _ _ e hS, H⟩
    · have := ready_mono hj hji
      rw [H.1] at this
      cases this
  | succ fuel ih =>
    intro listed S a hcl hsize hfree hr hy hst hST H
    refine ⟨fun h => (by rw [h] at hr; cases hr), fun j hj w hS => ?_⟩
    by_cases hji : j = i
    · subst hji; exact hy.wpOp hi (hST w hS) fun w' e => ⟨S, hst, .inr hST, hst _ _ e hS, H⟩
    · have h1 := H.2 j (ready_mono hj hji) w hS
      obtain ⟨hjun, oj, hoj, hall⟩ := mem_ready.1 hj
      have hnot : ∀ e ∈ oj.after, Region.binds md e = true → e.on ≠ i := fun e he hb heq => by
        have h1 := hall e he hb
        have h0 := (mem_ready.1 hr).1
        rw [heq] at h1
        rcases Nat.lt_or_ge i listed.size with h' | h'
        · simp [h'] at h0 h1; rw [h0] at h1; cases h1
        · simp [Array.getElem?_eq_none h'] at h1
      have hjs : j ≠ s := fun e => by
        subst e
        have h1 := awaits_ready hcl hj 20 hsi
        rw [getD_two (mem_ready.1 hr).1] at h1; cases h1
      have h2 := wpOp_putX hoj (hfree j oj hoj hji hjun hnot) (fun cs b => hsel i oi cs b hi) (fun cs b => hsel j oj cs b hoj) hQ hy h1
      have hfree' : ∀ k ok, ops[k]? = some ok → k ≠ i → (listed.setIfInBounds j true).getD k true = false →
          (∀ e ∈ ok.after, Region.binds md e = true → e.on ≠ i) → oi.apart ops ok = true := fun k ok hk hki hun hno => by
        refine hfree k ok hk hki ?_ hno
        by_cases hjk : j = k
        · subst hjk; exact hjun
        · rw [getD_set_ne true hjk] at hun; exact hun
      refine wpOp_mono (fun a' w' h3 => ?_) h2
      obtain ⟨hy', S', hst', hST', hS', H'⟩ := h3
      have hT' : ∀ w, S' w → T w := by
        refine hST'.resolve_left (fun hd => ?_)
        have hii : ((listed.setIfInBounds i true).setIfInBounds j true).getD s true = true := hd
        rw [getD_set_ne true hjs] at hii
        by_cases his : i = s
        · exact hne his
        · rw [getD_set_ne true his] at hii
          have hlt : s < listed.size := by
            rcases Nat.lt_or_ge s listed.size with h' | h'
            · exact h'
            · exfalso
              unfold awaits at hsi
              have hsz := hsize
              rw [Array.getElem?_eq_none (by omega)] at hsi
              cases hsi
          have h1 : listed.getD s false = true := by simp [hlt] at hii ⊢; exact hii
          have h2 := awaits_listed hcl 20 s h1 hsi
          rw [getD_two (mem_ready.1 hr).1] at h2; cases h2
      refine ⟨S', hst', .inr hT', hS', ih (listed.setIfInBounds j true) S' a' (hcl.add hj) (by simpa using hsize) hfree' (ready_mono hr (Ne.symm hji)) hy' hst' hT' ?_⟩
      rw [Array.setIfInBounds_comm _ _ hji]
      exact H'

theorem wpY_takes {l : List Oper} (hs : Region.noSelect l.toArray = true) (hQ : ∀ c d v a w, Q (.panic c) (Act.put a d v) w → Q (.panic c) a w) {S : World → Prop} (hst : Stab S) (hST : ∀ w, S w → T w) {fuel : Nat} :
    ∀ (ks : List Nat) (listed : Array Bool) (a : Act), Waited md l.toArray listed → listed.size = l.toArray.size → takesB md l.toArray ks listed = true → ks.all (fun i => awaits md l.toArray 20 s i && i != s) = true → wpTk P l T ks a (wpY P md l.toArray Q s T fuel (listAll ks listed) S) → wpY P md l.toArray Q s T (ks.length + fuel) listed S a
  | [], _, _, _, _, _, _, h => by simpa [wpTk, listAll] using h
  | i :: r, listed, a, hW, hZ, hB, hA, h => by
    simp only [takesB, Bool.and_eq_true] at hB
    obtain ⟨⟨hr, hf⟩, hB'⟩ := hB
    rw [List.all_cons, Bool.and_eq_true, Bool.and_eq_true] at hA
    obtain ⟨⟨hA1, hA2⟩, hA'⟩ := hA
    have hne : i ≠ s := by simpa using hA2
    simp only [wpTk] at h
    cases ho : nth l i with
    | none => simp [ho] at h
    | some o =>
      simp only [ho] at h
      have ho' : l.toArray[i]? = some o := by rw [nth_eq] at ho; simpa using ho
      have e : (i :: r).length + fuel = (r.length + fuel) + 1 := by simp; omega
      rw [e]
      by_cases hw : Region.wanted o (yielded l.toArray a.tmps) = true
      · simp only [hw, if_true] at h
        obtain ⟨v, hv, h⟩ := h
        exact wpY_first ho' (Region.noSelect_spec hs) (fun c a w => hQ c _ _ a w) hA1 hne _ _ _ _ hW hZ (Region.free_spec ho' hf) (by simpa using hr) (.inl ⟨hw, hv⟩) hst hST (wpY_takes hs hQ hst hST r _ _ (hW.add (by simpa using hr)) (by simpa using hZ) hB' hA' h)
      · simp only [hw] at h
        exact wpY_first ho' (Region.noSelect_spec hs) (fun c a w => hQ c _ _ a w) hA1 hne _ _ _ _ hW hZ (Region.free_spec ho' hf) (by simpa using hr) (.inr ⟨by simpa using hw, rfl⟩) hst hST (wpY_takes hs hQ hst hST r _ _ (hW.add (by simpa using hr)) (by simpa using hZ) hB' hA' h)

theorem wp_region_Y {id : Nat} {a : Act} {w : World} (s : Nat) (T S : World → Prop) (hm : P.follows .mixedOrders = true) (hS : S w.drew) (h : wpY P .any ops Q s T ops.size (Array.replicate ops.size false) S a) : (Code.region id ops true).wp P Q a w :=
  wp_region_any hm (wpAny_of_Y _ _ _ _ h _ hS)
theorem wpIn_region_Y {id : Nat} {a : Act} {w : World} {lv : Nat} (s : Nat) (T S : World → Prop) (hm : P.follows .mixedOrders = true) (hd : plainOps ops = true) (hQ : ¬ LetsOut Q) (hS : S w.drew) (h : wpY P .any ops Q s T ops.size (Array.replicate ops.size false) S a) :
    (Code.region id ops true).wpIn (Fence.wide.inRound lv) 0 P Q a w :=
  wpIn_region_any hm (wpAnyIn_of lv hd hQ _ _ _ _ (wpAny_of_Y _ _ _ _ h _ hS))
theorem wpY_done {listed : Array Bool} {S : World → Prop} {a : Act} (hr : Region.ready md ops listed = []) (h : ∀ w, S w → Q .normal a w) : ∀ fuel, wpY P md ops Q s T fuel listed S a
  | 0 => ⟨hr, h⟩
  | _ + 1 => ⟨fun _ => h, by rw [hr]; simp⟩
theorem wpY_one {l : List Oper} (i : Nat) {o : Oper} {fuel : Nat} {listed : Array Bool} {S : World → Prop} {a : Act} (hr : Region.ready md l.toArray listed = [i]) (ho : nth l i = some o) (hg : o.guard = none)
    (h : ∀ w, S w → ∀ K : Act → World → Prop, (∀ a' w', (∃ S' : World → Prop, Stab S' ∧ ((listed.setIfInBounds i true).getD s true = true ∨ ∀ w, S' w → T w) ∧ S' w' ∧ wpY P md l.toArray Q s T fuel (listed.setIfInBounds i true) S' a') → K a' w') → Oper.wp P o a w K Q) : wpY P md l.toArray Q s T (fuel + 1) listed S a := by
  refine ⟨fun h0 => absurd (hr ▸ h0) (by simp), hr ▸ fun j hj w hS => ?_⟩
  obtain rfl : j = i := by simpa using hj
  have ho' : l.toArray[j]? = some o := by rw [nth_eq] at ho; simpa using ho
  unfold wpOp
  simp only [ho', Region.wanted, hg, if_true]
  exact .inl (h w hS _ fun _ _ h => h)
theorem wpY_all {rs : List Nat} {fuel : Nat} {listed : Array Bool} {S : World → Prop} {a : Act} (hr : Region.ready md ops listed = rs) (hne : rs ≠ [])
    (h : ∀ i ∈ rs, ∀ w, S w → ∀ K : Act → World → Prop, (∀ a' w', (∃ S' : World → Prop, Stab S' ∧ ((listed.setIfInBounds i true).getD s true = true ∨ ∀ w, S' w → T w) ∧ S' w' ∧ wpY P md ops Q s T fuel (listed.setIfInBounds i true) S' a') → K a' w') → wpOp P ops Q i K a w) : wpY P md ops Q s T (fuel + 1) listed S a :=
  ⟨fun h0 => absurd (hr ▸ h0) hne, hr ▸ fun i hi w hS => h i hi w hS _ fun _ _ h => h⟩
theorem wpOp_of {l : List Oper} {i : Nat} {o : Oper} {a : Act} {w : World} {K : Act → World → Prop} (ho : nth l i = some o) (hg : o.guard = none) (h : o.wp P a w K Q) : wpOp P l.toArray Q i K a w := by
  have ho' : l.toArray[i]? = some o := by rw [nth_eq] at ho; simpa using ho
  unfold wpOp
  simp only [ho', Region.wanted, hg, if_true]
  exact .inl h
/-- An append, by itself. -/
theorem wp_append {o : Oper} {a : Act} {w : World} {K : Act → World → Prop} (sl x : Operand) (t : TypeId) (hop : o.op = .call { callee := .builtin .append, args := #[sl, x], argTypes := #[t, t] })
    (base : Nat) (e : TypeId) (inf : TypeInfo) (z : Value) (size bytes : Nat) (ht : P.underlying t = some (.slice e)) (hi : P.info? e = some inf) (hz : inf.zero = some z)
    (hsize : inf.size = size) (hby : inf.bytes = bytes) (hzs : z.cells.size = size) (hsz : 0 < size) (v : Value) (n : Nat) (xs : List Value) (A : Option Addr) (m c : Nat) (news : List Value)
    (hs : a.eval sl = v) (hx : a.eval x = .slice A m c) (hl : news.length = m * size) (h1 : ∀ u ∈ news, u.oneCell' = true) (h63 : n + m ≤ maxLen) (hbytes : (n + m) * bytes ≤ 140737488355328)
    (h2 : w.ownsRow base e size v n xs) (h3 : Cells w A news) (h4 : base ≤ w.heap.size)
    (h : ∀ v' w', w'.ownsRow base e size v' (n + m) (xs ++ news) → w.grownBy w' v.ownBlock → (v'.ownBlock = v.ownBlock ∨ ∃ g, v'.ownBlock = some g ∧ w.heap.size ≤ g) → K (a.put o.dst v') w') : o.wp P a w K Q := by
  obtain ⟨v', w', hrun, hown, hgrow, hblk⟩ := run_append_size2 (P := P) (w := w) base t o.type e inf z size bytes ht hi hz hsize hby hzs hsz v n xs h2 A m c news hl h3 h1 h63 hbytes h4
  unfold Oper.wp
  simp [execOp, hop, resolve, invoke, builtin, hs, hx, hrun, Result.andThen]
  exact h _ _ hown hgrow hblk
/-- A slice of one new element, and its append: the two come up one after the other. -/
theorem wpY_push {l : List Oper} (i j : Nat) {oi o : Oper} {fuel : Nat} {listed : Array Bool} {S : World → Prop} {a : Act}
    (hri : Region.ready md l.toArray listed = [i]) (hoi : nth l i = some oi) (hgi : oi.guard = none)
    (hr : Region.ready md l.toArray (listed.setIfInBounds i true) = [j]) (ho : nth l j = some o) (hg : o.guard = none)
    (sl x : Operand) (t : TypeId) (hop : o.op = .call { callee := .builtin .append, args := #[sl, x], argTypes := #[t, t] })
    (base : Nat) (e : TypeId) (inf : TypeInfo) (z : Value) (size bytes : Nat) (ht : P.underlying t = some (.slice e)) (hi : P.info? e = some inf) (hz : inf.zero = some z)
    (hsize : inf.size = size) (hby : inf.bytes = bytes) (hzs : z.cells.size = size) (hsz : 0 < size) (v : Value) (n : Nat) (xs news : List Value)
    (hbuild : ∀ w, (execOp a.eval oi).run P w = .ok (.value (.slice (some ⟨w.heap.size, 0, none⟩) 1 1)) (w.alloc (.cells news.toArray e)))
    (hs : ∀ g, (a.put oi.dst (.slice (some ⟨g, 0, none⟩) 1 1)).eval sl = v) (hx : ∀ g, (a.put oi.dst (.slice (some ⟨g, 0, none⟩) 1 1)).eval x = .slice (some ⟨g, 0, none⟩) 1 1)
    (hl : news.length = 1 * size) (h1 : ∀ u ∈ news, u.oneCell' = true) (h63 : n + 1 ≤ maxLen) (hbytes : (n + 1) * bytes ≤ 140737488355328)
    (hst : Stab S) (hST : ∀ w, S w → T w) (hS : ∀ w, S w → w.ownsRow base e size v n xs ∧ base ≤ w.heap.size)
    (h : ∀ g w, S w → ∀ v' w', w'.ownsRow base e size v' (n + 1) (xs ++ news) → w.grownBy w' v.ownBlock → (v'.ownBlock = v.ownBlock ∨ ∃ g, v'.ownBlock = some g ∧ w.heap.size ≤ g) →
      ∃ S' : World → Prop, Stab S' ∧ (((listed.setIfInBounds i true).setIfInBounds j true).getD s true = true ∨ ∀ w, S' w → T w) ∧ S' w' ∧ wpY P md l.toArray Q s T fuel ((listed.setIfInBounds i true).setIfInBounds j true) S' ((a.put oi.dst (.slice (some ⟨g, 0, none⟩) 1 1)).put o.dst v')) : wpY P md l.toArray Q s T (fuel + 1 + 1) listed S a := by
  refine wpY_one i hri hoi hgi fun w hw K hK => ?_
  unfold Oper.wp
  rw [hbuild, Oper.upon_value]
  refine hK _ _ ⟨fun wy => S wy ∧ Blk wy w.heap.size (.cells news.toArray e), hst.and (Stab.blk _ _), .inr fun _ h => hST _ h.1, ⟨hst _ _ ((Ext.refl w).alloc _) hw, Blk.new w _ rfl⟩, ?_⟩
  refine wpY_one j hr ho hg fun wy hy K' hK' => ?_
  obtain ⟨h2, h4⟩ := hS wy hy.1
  obtain ⟨v', w', hrun, hown, hgrow, hblk⟩ := run_append_size2 (P := P) (w := wy) base t o.type e inf z size bytes ht hi hz hsize hby hzs hsz v n xs h2 (some ⟨w.heap.size, 0, none⟩) 1 1 news hl (.inr ⟨_, 0, rfl, fun k u hu => by rw [hy.2.cell]; simpa using hu⟩) h1 h63 hbytes h4
  have e1 := hs w.heap.size
  have e2 := hx w.heap.size
  unfold Oper.wp
  simp [execOp, hop, resolve, invoke, builtin, e1, e2, hrun, Result.andThen]
  exact hK' _ _ (h _ wy hy.1 v' w' hown hgrow hblk)
end
attribute [irreducible] wpY
end Go.Proofs.YtmmcjcaccicheaaGreatDoor

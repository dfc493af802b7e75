/- Contracts of slices.Equal and of Apply for one hunk. -/
import Derived.Test.YtilogolnoifigaaKnow
import Derived.Laws.OwnMore
import Derived.Deep.DeepCutAuto
namespace Go.Proofs.Ytilogolnoifigaa
open Go.RowKit

set_option maxHeartbeats 400000 in
theorem equal_any (A B : Option Addr) (n m c d : Nat) (xs ys : List ByteArray) (w : World) (ha : Strs w A n xs) (hb : Strs w B m ys) (hn : n ≤ Reach) (hm : m ≤ Reach) :
    Calls Try.prog 20 #[.slice A n c, .slice B m d] w fun e w' => e = .returned (.bool (decide (xs = ys))) ∧ Ext w w' := by
  unfold Reach at hn hm
  have HA := Lib.hid ha; have HB := Lib.hid hb; clear ha hb
  by_cases hnm : n = m
  · subst hnm
    have h0 : ((n : Int) != (n : Int)) = false := by simp
    go_enter Try.func20, Try.ntmps20
    go_wp2
    go_loopw [13] (fun i wr => ∃ k : Nat, k ≤ n ∧ i = .int .i64 k ∧ xs.take k = ys.take k ∧ Ext w wr) (fun i _ => n - (intOf i).toNat)
    case atStart => exact ⟨0, Nat.zero_le _, rfl, rfl, Ext.refl _⟩
    case round =>
      obtain ⟨k, hk, rfl, htk, hE⟩ := hrel
      have HE := Lib.hid hE; have HT := Lib.hid htk; clear hE htk
      by_cases hlt : k < n
      · obtain ⟨b, off, s, rfl, hb1, hs1, hs2, hc1⟩ := (HA.out.ext HE.out).get hlt
        obtain ⟨b', off', s', rfl, hb1', hs1', hs2', hc1'⟩ := (HB.out.ext HE.out).get hlt
        have HS := Lib.hid hs1; have HS' := Lib.hid hs1'; clear hs1 hs1'
        go_wp2
        go_quiet (fail)
        go_wp2
        · go_ret
          have hne : (!s.toList == s'.toList) = true := by assumption
          refine ⟨?_, HE.out.drewN _⟩
          have : xs ≠ ys := fun e => by
            have h1 := HS.out; rw [e, HS'.out] at h1
            obtain rfl : s' = s := by simpa using h1
            simp at hne
          simp [this]
        · have heq : (!s.toList == s'.toList) = false := by assumption
          go_roundw
          case rel => exact ⟨k + 1, by omega, by go_num, by rw [take_succ_of HS.out, take_succ_of HS'.out, HT.out, toList_eq heq], HE.out.drewN _⟩
          case measure => simp [intOf]; omega
      · go_wp2
        go_ret
        refine ⟨?_, HE.out⟩
        have : xs = ys := by
          have h1 := HT.out
          rwa [List.take_of_length_le (by rw [HA.out.1]; omega), List.take_of_length_le (by rw [HB.out.1]; omega)] at h1
        simp [this]
  · have h0 : ((n : Int) != (m : Int)) = true := by simp; omega
    go_enter Try.func20, Try.ntmps20
    go_wp2
    go_ret
    refine ⟨?_, Ext.refl _⟩
    have : xs ≠ ys := fun e => hnm (by rw [← HA.out.1, ← HB.out.1, e])
    simp [this]

/-! ### append onto a row of the call's own -/
section
variable {P : Program} {w : World}

theorem run_append_nil' (base : Nat) (t ty e : TypeId) (i : TypeInfo) (size : Nat) (ht : P.underlying t = some (.slice e)) (hi : P.info? e = some i)
    (v : Value) (n : Nat) (xs : List Value) (hown : w.ownsRow base e size v n xs) (c : Nat) : (Builtin.append_ #[t, t] ty #[v, .slice none 0 c]).run P w = .ok v w := by
  rcases hown.2 with ⟨rfl, rfl⟩ | ⟨g, cap, cur, rfl, _, _, hnc, _⟩
  · simp [Builtin.append_, run_underlying ht, sizeOf, typeInfo, hi, Builtin.lenOf, Builtin.firstCells]
  · simp [Builtin.append_, run_underlying ht, sizeOf, typeInfo, hi, Builtin.lenOf, Builtin.firstCells, hnc, storeCells]

theorem run_append_cells (base : Nat) (t ty e : TypeId) (i : TypeInfo) (z : Value) (bytes : Nat) (ht : P.underlying t = some (.slice e)) (hi : P.info? e = some i) (hz : i.zero = some z)
    (hsize : i.size = 1) (hby : i.bytes = bytes) (hzs : z.cells.size = 1)
    (v : Value) (n : Nat) (xs : List Value) (hown : w.ownsRow base e 1 v n xs)
    (A : Option Addr) (m c : Nat) (news : List Value) (hl : news.length = m) (hr : Cells w A news) (h1 : ∀ u ∈ news, u.oneCell' = true)
    (h63 : n + m ≤ maxLen) (hbytes : (n + m) * bytes ≤ 140737488355328) (hbase : base ≤ w.heap.size) :
    ∃ v' w', (Builtin.append_ #[t, t] ty #[v, .slice A m c]).run P w = .ok v' w' ∧ w'.ownsRow base e 1 v' (n + m) (xs ++ news) ∧ w.grownBy w' v.ownBlock := by
  rcases A with _ | ad
  · have hn : news = [] := by
      rcases hr with h | ⟨b, off, h, _⟩
      · exact h
      · cases h
    subst hn
    obtain rfl : m = 0 := by simpa using hl.symm
    exact ⟨v, w, run_append_nil' base t ty e i 1 ht hi v n xs hown c, by simpa using hown, World.grownBy.refl w _⟩
  · have hcells : ∀ j u, news[j]? = some u → w.cell? (ad.add j) = some u := by
      intro j u hu
      rcases hr with h | ⟨b, off, h, h2⟩
      · subst h; simp at hu
      · cases h
        have := h2 j u hu
        unfold Addr.add
        by_cases hj : j = 0
        · subst hj; simpa using this
        · simpa [hj] using this
    obtain ⟨v', w', h2, h3, h4, _⟩ := run_append_own (P := P) w base t ty e i z 1 bytes ht hi hz hsize hby hzs (by omega) v n xs hown ad m c news (by simpa using hl) hcells h1 h63 hbytes hbase
    exact ⟨v', w', h2, h3, h4⟩

/-- The append in a region of which it alone may come up. -/
theorem wpX_append {Q : Exit → Act → World → Prop} {T : World → Prop} {md : Region.Mode} {l : List Oper} (i : Nat) {o : Oper} {fuel : Nat} {listed : Array Bool} {S : World → Prop} {a : Act} (hr : Region.ready md l.toArray listed = [i]) (ho : nth l i = some o) (hg : o.guard = none)
    (s x : Operand) (t : TypeId) (hop : o.op = .call { callee := .builtin .append, args := #[s, x], argTypes := #[t, t] })
    (base : Nat) (e : TypeId) (inf : TypeInfo) (z : Value) (bytes : Nat) (ht : P.underlying t = some (.slice e)) (hi : P.info? e = some inf) (hz : inf.zero = some z)
    (hsize : inf.size = 1) (hby : inf.bytes = bytes) (hzs : z.cells.size = 1) (v : Value) (n : Nat) (xs : List Value) (A : Option Addr) (m c : Nat) (news : List Value)
    (hs : a.eval s = v) (hx : a.eval x = .slice A m c) (hl : news.length = m) (h1 : ∀ u ∈ news, u.oneCell' = true) (h63 : n + m ≤ maxLen) (hbytes : (n + m) * bytes ≤ 140737488355328)
    (hS : ∀ w, S w → w.ownsRow base e 1 v n xs ∧ Cells w A news ∧ base ≤ w.heap.size)
    (h : ∀ w, S w → ∀ v' w', w'.ownsRow base e 1 v' (n + m) (xs ++ news) → w.grownBy w' v.ownBlock →
      ∃ S' : World → Prop, Stab S' ∧ (∀ w, S' w → T w) ∧ S' w' ∧ wpX P md l.toArray Q T fuel (listed.setIfInBounds i true) S' (a.put o.dst v')) : wpX P md l.toArray Q T (fuel + 1) listed S a := by
  refine wpX_one i hr ho hg fun w hw K hK => ?_
  obtain ⟨h2, h3, h4⟩ := hS w hw
  obtain ⟨v', w', hrun, hown, hgrow⟩ := run_append_cells (P := P) (w := w) base t o.type e inf z bytes ht hi hz hsize hby hzs v n xs h2 A m c news hl h3 h1 h63 hbytes h4
  unfold Oper.wp
  simp [execOp, hop, resolve, invoke, builtin, hs, hx, hrun, Result.andThen]
  exact hK _ _ (h w hw v' w' hown hgrow)

/-- The append in a plain region. -/
theorem wpList_append_cells {ops : Array Oper} {rest : List Oper} {o : Oper} {a : Act} {Q : Exit → Act → World → Prop} (hg : o.guard = none)
    (s x : Operand) (t : TypeId) (hop : o.op = .call { callee := .builtin .append, args := #[s, x], argTypes := #[t, t] })
    (base : Nat) (e : TypeId) (inf : TypeInfo) (z : Value) (bytes : Nat) (ht : P.underlying t = some (.slice e)) (hi : P.info? e = some inf) (hz : inf.zero = some z)
    (hsize : inf.size = 1) (hby : inf.bytes = bytes) (hzs : z.cells.size = 1) (v : Value) (n : Nat) (xs : List Value) (A : Option Addr) (m c : Nat) (news : List Value)
    (hs : a.eval s = v) (hx : a.eval x = .slice A m c) (hl : news.length = m) (h1 : ∀ u ∈ news, u.oneCell' = true) (h63 : n + m ≤ maxLen) (hbytes : (n + m) * bytes ≤ 140737488355328)
    (h2 : w.ownsRow base e 1 v n xs) (h3 : Cells w A news) (h4 : base ≤ w.heap.size)
    (h : ∀ v' w', w'.ownsRow base e 1 v' (n + m) (xs ++ news) → w.grownBy w' v.ownBlock → wpList P ops Q rest (a.put o.dst v') w') : wpList P ops Q (o :: rest) a w := by
  refine wpList_plain hg fun K hK => ?_
  obtain ⟨v', w', hrun, hown, hgrow⟩ := run_append_cells (P := P) (w := w) base t o.type e inf z bytes ht hi hz hsize hby hzs v n xs h2 A m c news hl h3 h1 h63 hbytes h4
  unfold Oper.wp
  simp [execOp, hop, resolve, invoke, builtin, hs, hx, hrun, Result.andThen]
  exact hK _ _ (h v' w' hown hgrow)

theorem own_stab (base : Nat) (e : TypeId) (v : Value) (n : Nat) (xs : List Value) : Stab (fun w => w.ownsRow base e 1 v n xs) := by
  intro w w' he h
  refine ⟨h.1, ?_⟩
  rcases h.2 with hn | ⟨g, cap, cur, rfl, hb, hgg, rest⟩
  · exact .inl hn
  · exact .inr ⟨g, cap, cur, rfl, hb, he.block hgg, rest⟩
theorem Ext.own {w0 w w' : World} {e : TypeId} {v : Value} {n : Nat} {xs : List Value} (h : Ext w0 w) (ho : w.ownsRow w0.heap.size e 1 v n xs) (hg : w.grownBy w' v.ownBlock) : Ext w0 w' :=
  h.grown hg fun k hk => (ho.lt k hk).1
theorem own_ne {base : Nat} {e t : TypeId} {n : Nat} {v : Value} {xs : List Value} {g : Nat} {cs : Array Value} (h : w.ownsRow base e 1 v n xs) (hg : Blk w g (.cells cs t (0, 0))) (hne : e ≠ t) : v.ownBlock ≠ some g := by
  rcases h.2 with ⟨rfl, _⟩ | ⟨g', cap, cur, rfl, _, hh, _⟩
  · simp [Value.ownBlock]
  · intro he
    have : g' = g := by simpa [Value.ownBlock] using he
    subst this
    unfold Blk at hg
    rw [hg] at hh
    injection hh with hh
    injection hh with _ h2
    exact hne h2.symm
theorem Blk.own {base : Nat} {e t : TypeId} {n : Nat} {v : Value} {xs : List Value} {g : Nat} {cs : Array Value} {w' : World} (hb : Blk w g (.cells cs t (0, 0))) (h : w.ownsRow base e 1 v n xs) (hne : e ≠ t) (hg : w.grownBy w' v.ownBlock) : Blk w' g (.cells cs t (0, 0)) :=
  (hg.block g hb.lt (fun e => own_ne h hb hne e.symm)).trans hb
/-- What a row of one's own holds, as a slice of strings. -/
theorem own_strs {base : Nat} {e : TypeId} {n : Nat} {v : Value} {ss : List ByteArray} (h : w.ownsRow base e 1 v n (ss.map .string)) (hs : ∀ s ∈ ss, s.size ≤ Reach) : ∃ A c, v = .slice A n c ∧ n ≤ c ∧ Strs w A n ss := by
  have hl : ss.length = n := by simpa using h.1
  have hc := fun g hg => h.cells (g := g) hg
  rcases h.2 with ⟨rfl, rfl⟩ | ⟨g, cap, cur, rfl, hb, hgg, hnc, _⟩
  · obtain rfl : ss = [] := List.eq_nil_of_length_eq_zero hl
    exact ⟨none, 0, rfl, Nat.le_refl _, Strs.nil _ _⟩
  · exact ⟨_, _, rfl, hnc, hl, hs, Cells.of_add _ (hc g rfl)⟩
end

end Go.Proofs.Ytilogolnoifigaa

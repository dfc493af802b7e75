/- append of hunks; the contract of slices.Clone. -/
import Derived.Test.YtilogolnoifigaaSeqLaw
namespace Go.Proofs.Ytilogolnoifigaa
open Go.RowKit

section
variable {P : Program} {w : World}
theorem run_append_size (base : Nat) (t ty e : TypeId) (i : TypeInfo) (z : Value) (size bytes : Nat) (ht : P.underlying t = some (.slice e)) (hi : P.info? e = some i) (hz : i.zero = some z)
    (hsize : i.size = size) (hby : i.bytes = bytes) (hzs : z.cells.size = size) (hsz : 0 < size)
    (v : Value) (n : Nat) (xs : List Value) (hown : w.ownsRow base e size v n xs)
    (A : Option Addr) (m c : Nat) (news : List Value) (hl : news.length = m * size) (hr : Cells w A news) (h1 : ∀ u ∈ news, u.oneCell' = true)
    (h63 : n + m ≤ maxLen) (hbytes : (n + m) * bytes ≤ 140737488355328) (hbase : base ≤ w.heap.size) :
    ∃ v' w', (Builtin.append_ #[t, t] ty #[v, .slice A m c]).run P w = .ok v' w' ∧ w'.ownsRow base e size v' (n + m) (xs ++ news) ∧ w.grownBy w' v.ownBlock := by
  rcases A with _ | ad
  · have hn : news = [] := by
      rcases hr with h | ⟨b, off, h, _⟩
      · exact h
      · cases h
    subst hn
    have hm0 : m * size = 0 := by simpa using hl.symm
    obtain rfl : m = 0 := by
      rcases Nat.eq_zero_or_pos m with h | h
      · exact h
      · have := Nat.mul_pos h hsz; omega
    exact ⟨v, w, run_append_nil' base t ty e i size ht hi v n xs hown c, by simpa using hown, World.grownBy.refl w _⟩
  · have hcells : ∀ j u, news[j]? = some u → w.cell? (ad.add j) = some u := by
      intro j u hu
      rcases hr with h | ⟨b, off, h, h2⟩
      · subst h; simp at hu
      · cases h
        have := h2 j u hu
        unfold Addr.add
        by_cases hj : j = 0
        · subst hj; simpa using this
        · simpa [hj] using this
    obtain ⟨v', w', h2, h3, h4, _⟩ := run_append_own (P := P) w base t ty e i z size bytes ht hi hz hsize hby hzs hsz v n xs hown ad m c news hl hcells h1 h63 hbytes hbase
    exact ⟨v', w', h2, h3, h4⟩

theorem wpList_append_size {ops : Array Oper} {rest : List Oper} {o : Oper} {a : Act} {Q : Exit → Act → World → Prop} (hg : o.guard = none)
    (s x : Operand) (t : TypeId) (hop : o.op = .call { callee := .builtin .append, args := #[s, x], argTypes := #[t, t] })
    (base : Nat) (e : TypeId) (inf : TypeInfo) (z : Value) (size bytes : Nat) (ht : P.underlying t = some (.slice e)) (hi : P.info? e = some inf) (hz : inf.zero = some z)
    (hsize : inf.size = size) (hby : inf.bytes = bytes) (hzs : z.cells.size = size) (hsz : 0 < size) (v : Value) (n : Nat) (xs : List Value) (A : Option Addr) (m c : Nat) (news : List Value)
    (hs : a.eval s = v) (hx : a.eval x = .slice A m c) (hl : news.length = m * size) (h1 : ∀ u ∈ news, u.oneCell' = true) (h63 : n + m ≤ maxLen) (hbytes : (n + m) * bytes ≤ 140737488355328)
    (h2 : w.ownsRow base e size v n xs) (h3 : Cells w A news) (h4 : base ≤ w.heap.size)
    (h : ∀ v' w', w'.ownsRow base e size v' (n + m) (xs ++ news) → w.grownBy w' v.ownBlock → wpList P ops Q rest (a.put o.dst v') w') : wpList P ops Q (o :: rest) a w := by
  refine wpList_plain hg fun K hK => ?_
  obtain ⟨v', w', hrun, hown, hgrow⟩ := run_append_size (P := P) (w := w) base t o.type e inf z size bytes ht hi hz hsize hby hzs hsz v n xs h2 A m c news hl h3 h1 h63 hbytes h4
  unfold Oper.wp
  simp [execOp, hop, resolve, invoke, builtin, hs, hx, hrun, Result.andThen]
  exact hK _ _ (h v' w' hown hgrow)
theorem Ext.own3 {w0 w w' : World} {e : TypeId} {size : Nat} {v : Value} {n : Nat} {xs : List Value} (h : Ext w0 w) (ho : w.ownsRow w0.heap.size e size v n xs) (hg : w.grownBy w' v.ownBlock) : Ext w0 w' :=
  h.grown hg fun k hk => (ho.lt k hk).1
end

theorem infoH : ∃ i, Try.prog.info? 24 = some i ∧ i.zero = some (.agg #[.int .i64 0, .slice none 0 0, .slice none 0 0]) ∧ i.size = 3 ∧ i.bytes = 56 := by
  have h : (Try.prog.info? 24).map (fun i => (i.zero, i.size, i.bytes)) = some (some (.agg #[.int .i64 0, .slice none 0 0, .slice none 0 0]), 3, 56) := by kernel_rfl
  cases hi : Try.prog.info? 24 with
  | none => rw [hi] at h; cases h
  | some i =>
    rw [hi] at h
    simp only [Option.map_some, Option.some.injEq, Prod.mk.injEq] at h
    exact ⟨i, rfl, h.1, h.2.1, h.2.2⟩
theorem underQ : Try.prog.underlying 53 = some (.slice 24) := by kernel_rfl
theorem underHs : Try.prog.underlying 26 = some (.slice 24) := by kernel_rfl
theorem one_hk (hs : List Hk) : ∀ u ∈ hs.flatMap Hk.cells, u.oneCell' = true := by
  intro u hu
  obtain ⟨h, _, hu⟩ := List.mem_flatMap.1 hu
  simp only [Hk.cells, List.mem_cons, List.not_mem_nil, or_false] at hu
  rcases hu with rfl | rfl | rfl <;> rfl

/-- What a row of one's own holds, as a slice of hunks. -/
theorem own_hks {w : World} {base : Nat} {e : TypeId} {v : Value} {n : Nat} {hs : List Hk} (h : w.ownsRow base e 3 v n (hs.flatMap Hk.cells)) (hs' : ∀ x ∈ hs, x.small) : ∃ A c, v = .slice A n c ∧ n ≤ c ∧ Hks w A n hs := by
  have hl : hs.length = n := by have := h.1; rw [flat3_len _ (fun _ => rfl)] at this; omega
  have hc := fun g hg => h.cells (g := g) hg
  rcases h.2 with ⟨rfl, rfl⟩ | ⟨g, cap, cur, rfl, hb, hgg, hnc, _⟩
  · obtain rfl : hs = [] := List.eq_nil_of_length_eq_zero hl
    exact ⟨none, 0, rfl, Nat.le_refl _, rfl, by simp, Cells.nil _ _⟩
  · exact ⟨_, _, rfl, hnc, hl, hs', Cells.of_add _ (hc g rfl)⟩

set_option maxHeartbeats 1000000 in
theorem clone_any {hs : List Hk} (A : Option Addr) (n c : Nat) (w : World) (hh : Hks w A n hs) (hn : n ≤ 1000) :
    Calls Try.prog 42 #[.slice A n c] w fun e w' => Ext w w' ∧ ∃ v, e = .returned v ∧ w'.ownsRow w.heap.size 24 3 v n (hs.flatMap Hk.cells) := by
  have HH := Lib.hid hh; clear hh
  obtain ⟨inf, i1, i2, i3, i4⟩ := infoH
  have I1 := Lib.hid i1; have I2 := Lib.hid i2; have I3 := Lib.hid i3; have I4 := Lib.hid i4; clear i1 i2 i3 i4
  cases A with
  | none =>
    have hnil : ∀ (A : Option Addr) (w : World), (binOp .eql 53 (.slice A n c) (.slice none 0 0)).run Try.prog w = .ok (.bool A.isNone) w := fun A w => Lib.run_eql_slice_nil w _ _ A n c 0 0 underQ
    go_enter Try.func42, Try.ntmps42
    go_wp2_with fail
    go_ret
    have he : hs = [] := by
      rcases HH.out.2.2 with h | ⟨b, off, h, _⟩
      · cases hs with
        | nil => rfl
        | cons x t => simp at h
      · cases h
    subst he
    obtain rfl : n = 0 := HH.out.1.symm
    exact ⟨Ext.refl _, _, rfl, World.ownsRow_nil _ _ _ _⟩
  | some ad =>
    have hnil : ∀ (A : Option Addr) (w : World), (binOp .eql 53 (.slice A n c) (.slice none 0 0)).run Try.prog w = .ok (.bool A.isNone) w := fun A w => Lib.run_eql_slice_nil w _ _ A n c 0 0 underQ
    go_enter Try.func42, Try.ntmps42
    go_wp2_with (at_builtin; refine wpList_append_size (w := w.alloc (.cells #[] 24)) rfl (.tmp 5) (.tmp 6) 53 rfl w.heap.size 24 inf _ 3 56 underQ I1.out I2.out I3.out I4.out rfl (by decide) (.slice (some ⟨w.heap.size, 0, none⟩) 0 0) 0 [] (some ad) n c (hs.flatMap Hk.cells) rfl rfl (by rw [flat3_len _ (fun _ => rfl), HH.out.1]) (one_hk _) (by simp only [maxLen]; omega) (by omega) (World.ownsRow_made w #[] 0 (Nat.le_refl _) (by decide) rfl) (HH.out.2.2.ext ((Ext.refl _).alloc _)) ((Ext.refl w).alloc _).size ?_; intro v2 w2 hown2 hg2)
    have HO := Lib.hid hown2; have HE := Lib.hid (((Ext.refl w).alloc (.cells #[] 24)).own3 (World.ownsRow_made (size := 3) (e := 24) w #[] 0 (Nat.le_refl _) (by decide) rfl) hg2); clear hown2 hg2
    go_wp2_with fail
    go_ret
    exact ⟨HE.out, _, rfl, by simpa using HO.out⟩
end Go.Proofs.Ytilogolnoifigaa

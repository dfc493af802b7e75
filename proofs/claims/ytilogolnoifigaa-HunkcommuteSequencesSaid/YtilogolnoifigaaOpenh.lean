/- A slice of hunks that came in as an argument. -/
import Derived.Test.YtilogolnoifigaaOpens
import Derived.Deep.Slices
namespace Go.Proofs.Ytilogolnoifigaa
open Go.ChangeShapes Go.WideShapes Go.ChangeAt Go.RowKit Go.Joins Go.Deep

instance : Inhabited (Hk × AH) := ⟨(⟨0, none, 0, 0, none, 0, 0⟩, ⟨0, [], []⟩)⟩

section
variable {H : Type} {enc : TypeId × Value → H} {w : World} {base : Nat} {spare : Nat → Bool} {held : Bool}

/-- A hunk that is read out of three cells. -/
theorem open_hunk_cells {n : Nat} {cs : List Value} {y : DataW H × List MemPlace} (h : DataW.trod enc Try.prog w base spare held n 24 cs = some y) (hl : Light Try.prog 24 y.1) :
    ∃ (k : Hk) (x : AH), cs = k.cells ∧ RH w k x := by
  obtain ⟨y0, y1, y2, m, hx, hlen, hy0, hy1, hy2⟩ := trod_struct3 Try.underlying24 h
  rw [cellsH] at hlen
  have cI : Try.prog.cellsOf 3 = 1 := by kernel_rfl
  have cL : Try.prog.cellsOf 22 = 1 := by kernel_rfl
  match cs, hlen with
  | [c0, c1, c2], _ =>
    have hy0' : DataW.trod enc Try.prog w base spare held m 3 (List.take (Try.prog.cellsOf 3) [c0, c1, c2]) = some y0 := hy0
    have hy1' : DataW.trod enc Try.prog w base spare held m 22 (List.take (Try.prog.cellsOf 22) [c1, c2]) = some y1 := hy1
    have hy2' : DataW.trod enc Try.prog w base spare held m 22 (List.take (Try.prog.cellsOf 22) [c2]) = some y2 := hy2
    rw [cI] at hy0'
    rw [cL] at hy1' hy2'
    obtain ⟨a, e0, rfl, wa⟩ := DataW.trod_int Try.underlying3 hy0'
    obtain rfl : c0 = .int .i64 a := by simpa using e0
    subst hx
    have l1 : Light Try.prog 22 y1.1 := light_parts Try.underlying24 hl (j := 1) rfl rfl
    have l2 : Light Try.prog 22 y2.1 := light_parts Try.underlying24 hl (j := 2) rfl rfl
    obtain ⟨A, n, c, ss, rfl, hn, hs⟩ := open_strs_any Try.underlying22 Try.underlying9 cellsS bytesS hy1' l1
    obtain ⟨A', n', c', ss', rfl, hn', hs'⟩ := open_strs_any Try.underlying22 Try.underlying9 cellsS bytesS hy2' l2
    exact ⟨⟨a, A, n, c, A', n', c'⟩, ⟨a, ss, ss'⟩, rfl, ⟨hn, hn'⟩, rfl, hs, hs'⟩

theorem open_hunks_arg {b0 : Nat} {r : Go.Reach} {v : Value} {d : DataW H} {p : List MemPlace} (hv : Value.okWide Try.prog w r b0 26 v) (h : DataW.Trod enc Try.prog w base spare held 26 v d p) (hl : Light Try.prog 26 d) :
    ∃ s : HS, v = .slice s.a s.n s.c ∧ s.n ≤ s.c ∧ RHS w s := by
  obtain ⟨A, n, c, rfl⟩ := okWide_slice Try.underlying26 hv
  obtain ⟨m, hm⟩ := h
  have hm' : DataW.trod enc Try.prog w base spare held m 26 [.slice A n c] = some (d, p) := hm
  rcases open_slice Try.underlying26 hm' with ⟨hcs, _⟩ | ⟨a, len, cap, mm, n', D, Pl, hcs, _, hle, _, hmm, hx, hi⟩
  · obtain ⟨rfl, rfl, rfl⟩ : A = none ∧ n = 0 ∧ c = 0 := by simpa using hcs
    exact ⟨⟨none, 0, 0, [], []⟩, rfl, Nat.le_refl _, by show 0 ≤ Reach; decide, ⟨rfl, by simp, Cells.nil _ _⟩, rfl, fun k h x h1 _ => by simp at h1⟩
  · obtain ⟨rfl, rfl, rfl⟩ : A = some a ∧ n = len ∧ c = cap := by simpa using hcs
    simp only [Prod.mk.injEq] at hx
    obtain ⟨rfl, _⟩ := hx
    obtain ⟨h1, h2⟩ := light_slice Try.underlying26 hl
    rw [bytesH, reach_eq] at h1
    simp only [List.length_map, List.length_range] at h1
    have hlm : n ≤ mm := by rw [hmm]; split <;> omega
    obtain ⟨V, hV⟩ := choose_lt (n := n) (α := Hk × AH) (p := fun i v => RH w v.1 v.2 ∧ w.cells? base (a.add (i * 3)) 3 = some v.1.cells) (fun i hin => by
      obtain ⟨cs', g1, g2⟩ := hi i (by omega)
      rw [cellsH] at g1
      obtain ⟨k, x, rfl, hr⟩ := open_hunk_cells g2 (h2 (D i) (List.mem_map.2 ⟨i, List.mem_range.2 hin, rfl⟩))
      exact ⟨(k, x), hr, g1⟩)
    have hget : ∀ q, q < n → ((List.range n).map fun i => (V i).1)[q]? = some (V q).1 := fun q hq => by simp [hq]
    refine ⟨⟨some a, n, c, (List.range n).map fun i => (V i).1, (List.range n).map fun i => (V i).2⟩, rfl, hle, by show n ≤ Reach; omega, ⟨by simp, fun x hx => ?_, Cells.of_add a fun j u hu => ?_⟩, by simp, fun k h x h1 h2 => ?_⟩
    · obtain ⟨i, hi1, rfl⟩ := List.mem_map.1 hx
      exact (hV i (List.mem_range.1 hi1)).1.1
    · have hj : j < n * 3 := by
        have := (List.getElem?_eq_some_iff.1 hu).1
        rw [flat3_len _ (fun _ => rfl)] at this
        simpa using this
      have hq : j / 3 < n := by omega
      have hr : j % 3 < 3 := Nat.mod_lt _ (by omega)
      have hjq : j = j / 3 * 3 + j % 3 := by omega
      have h3 := flat3_get Hk.cells (fun _ => rfl) _ (j / 3) (j % 3) _ (hget _ hq) hr
      rw [← hjq, hu] at h3
      obtain ⟨_, _, hat⟩ := World.cells?_some (hV _ hq).2
      have := hat (j % 3) hr
      rw [add_add, ← hjq] at this
      rw [this, ← h3]
    · have hk : k < n := by
        have := (List.getElem?_eq_some_iff.1 h1).1
        simpa using this
      simp [hk] at h1 h2
      subst h1; subst h2
      exact (hV k hk).1
end
end Go.Proofs.Ytilogolnoifigaa

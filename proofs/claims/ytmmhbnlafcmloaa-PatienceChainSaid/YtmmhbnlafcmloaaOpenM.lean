/- A slice of matches that came in as an argument. -/
import Derived.Test.YtmmhbnlafcmloaaOpenB
import Derived.Test.YtmmhbnlafcmloaaMatch
namespace Go.Proofs.Ytmmhbnlafcmloaa
open Go.ChangeShapes Go.WideShapes Go.ChangeAt Go.RowKit Go.Joins Go.Deep

instance : Inhabited Mt := ⟨⟨0, 0, 0⟩⟩
theorem cellsMt : Try.prog.cellsOf 32 = 3 := by kernel_rfl
theorem bytesMt : Try.prog.bytesOf 32 = 24 := by kernel_rfl

section
variable {H : Type} {enc : TypeId × Value → H} {w : World} {base : Nat} {spare : Nat → Bool} {held : Bool}

theorem wf_I64 {x : Int} (h : (Lit.int .i64 x).wf = true) : I64 x := bounds_i64 h

/-- A match that is read out of three cells. -/
theorem open_match_cells {n : Nat} {cs : List Value} {y : DataW H × List MemPlace} (h : DataW.trod enc Try.prog w base spare held n 32 cs = some y) :
    ∃ m : Mt, cs = m.cells ∧ m.wf := by
  obtain ⟨y0, y1, y2, m, hx, hlen, hy0, hy1, hy2⟩ := trod_struct3 Try.underlying32 h
  rw [cellsMt] at hlen
  have cI : Try.prog.cellsOf 3 = 1 := by kernel_rfl
  match cs, hlen with
  | [c0, c1, c2], _ =>
    have hy0' : DataW.trod enc Try.prog w base spare held m 3 (List.take (Try.prog.cellsOf 3) [c0, c1, c2]) = some y0 := hy0
    have hy1' : DataW.trod enc Try.prog w base spare held m 3 (List.take (Try.prog.cellsOf 3) [c1, c2]) = some y1 := hy1
    have hy2' : DataW.trod enc Try.prog w base spare held m 3 (List.take (Try.prog.cellsOf 3) [c2]) = some y2 := hy2
    rw [cI] at hy0' hy1' hy2'
    obtain ⟨a, e0, rfl, wa⟩ := DataW.trod_int Try.underlying3 hy0'
    obtain ⟨b, e1, rfl, wb⟩ := DataW.trod_int Try.underlying3 hy1'
    obtain ⟨l, e2, rfl, wl⟩ := DataW.trod_int Try.underlying3 hy2'
    obtain rfl : c0 = .int .i64 a := by simpa using e0
    obtain rfl : c1 = .int .i64 b := by simpa using e1
    obtain rfl : c2 = .int .i64 l := by simpa using e2
    exact ⟨⟨a, b, l⟩, rfl, wf_I64 wa, wf_I64 wb, wf_I64 wl⟩

theorem open_matches_arg {b0 : Nat} {r : Go.Reach} {v : Value} {d : DataW H} {p : List MemPlace} (hv : Value.okWide Try.prog w r b0 25 v) (h : DataW.Trod enc Try.prog w base spare held 25 v d p) (hl : Light Try.prog 25 d) :
    ∃ (A : Option Addr) (n c : Nat) (ms : List Mt), v = .slice A n c ∧ n ≤ Reach ∧ Mts w A n ms := by
  obtain ⟨A, n, c, rfl⟩ := okWide_slice Try.underlying25 hv
  obtain ⟨m, hm⟩ := h
  have hm' : DataW.trod enc Try.prog w base spare held m 25 [.slice A n c] = some (d, p) := hm
  rcases open_slice Try.underlying25 hm' with ⟨hcs, _⟩ | ⟨a, len, cap, mm, n', D, Pl, hcs, _, hle, _, hmm, hx, hi⟩
  · obtain ⟨rfl, rfl, rfl⟩ : A = none ∧ n = 0 ∧ c = 0 := by simpa using hcs
    exact ⟨none, 0, 0, [], rfl, by decide, Mts.nil _ _⟩
  · obtain ⟨rfl, rfl, rfl⟩ : A = some a ∧ n = len ∧ c = cap := by simpa using hcs
    simp only [Prod.mk.injEq] at hx
    obtain ⟨rfl, _⟩ := hx
    obtain ⟨h1, h2⟩ := light_slice Try.underlying25 hl
    rw [bytesMt, reach_eq] at h1
    simp only [List.length_map, List.length_range] at h1
    have hlm : n ≤ mm := by rw [hmm]; split <;> omega
    obtain ⟨V, hV⟩ := choose_lt (n := n) (α := Mt) (p := fun i v => v.wf ∧ w.cells? base (a.add (i * 3)) 3 = some v.cells) (fun i hin => by
      obtain ⟨cs', g1, g2⟩ := hi i (by omega)
      rw [cellsMt] at g1
      obtain ⟨k, rfl, hr⟩ := open_match_cells g2
      exact ⟨k, hr, g1⟩)
    have hget : ∀ q, q < n → ((List.range n).map V)[q]? = some (V q) := fun q hq => by simp [hq]
    refine ⟨some a, n, c, (List.range n).map V, rfl, by omega, by simp, fun x hx => ?_, Cells.of_add a fun j u hu => ?_⟩
    · obtain ⟨i, hi1, rfl⟩ := List.mem_map.1 hx
      exact (hV i (List.mem_range.1 hi1)).1
    · have hj : j < n * 3 := by
        have := (List.getElem?_eq_some_iff.1 hu).1
        rw [flat_len mt_cells_len] at this
        simpa using this
      have hq : j / 3 < n := by omega
      have hr : j % 3 < 3 := Nat.mod_lt _ (by omega)
      have hjq : j = j / 3 * 3 + j % 3 := by omega
      have h3 := flat_get mt_cells_len _ (j / 3) (j % 3) _ (hget _ hq) hr
      rw [← hjq, hu] at h3
      obtain ⟨_, _, hat⟩ := World.cells?_some (hV _ hq).2
      have := hat (j % 3) hr
      rw [add_add, ← hjq] at this
      rw [this, ← h3]
end
end Go.Proofs.Ytmmhbnlafcmloaa

/- How a slice of pieces is opened. No condition. -/
import Derived.Test.YtmmppfopokbcfaaTkOpen
import Derived.Test.YtmmppfopokbcfaaTkMem
import Derived.ChangeSame
namespace Go.Proofs.Ytmmppfopokbcfaa
open Go.ChangeShapes Go.WideShapes Go.ChangeAt Go.RowKit Go.Joins Go.Deep

instance : Inhabited Pc := ⟨⟨0, ⟨#[]⟩⟩⟩
theorem cellsPc : Try.prog.cellsOf 30 = 2 := by kernel_rfl
theorem bytesPc : Try.prog.bytesOf 30 = 24 := by kernel_rfl
theorem cellsI : Try.prog.cellsOf 3 = 1 := by kernel_rfl
theorem wf_I64 {x : Int} (h : (Lit.int .i64 x).wf = true) : I64 x := bounds_i64 h
theorem add_add' (a : Addr) (i j : Nat) : (a.add i).add j = a.add (i + j) := by
  unfold Addr.add
  by_cases hi : i = 0
  · subst hi; simp
  · by_cases hj : j = 0
    · subst hj; simp [hi]
    · rw [if_neg hi, if_neg hj, if_neg (by omega)]; simp [Nat.add_assoc]

section
variable {H : Type} {enc : TypeId × Value → H} {w : World} {base : Nat} {spare : Nat → Bool} {held : Bool}
set_option maxRecDepth 100000 in
theorem open_piece_cells {n : Nat} {cs : List Value} {y : DataW H × List MemPlace} (h : DataW.trod enc Try.prog w base spare held n 30 cs = some y) (hl : Light Try.prog 30 y.1) :
    ∃ p : Pc, cs = p.cells ∧ p.wf := by
  obtain ⟨y0, y1, m, rfl, hlen, hy0, hy1⟩ := trod_struct2 Try.underlying30 h
  rw [cellsPc] at hlen
  match cs, hlen with
  | [c0, c1], _ =>
    have g0' : DataW.trod enc Try.prog w base spare held m 3 (List.take (Try.prog.cellsOf 3) [c0, c1]) = some y0 := hy0
    have g1' : DataW.trod enc Try.prog w base spare held m 9 (List.take (Try.prog.cellsOf 9) [c1]) = some y1 := hy1
    rw [cellsI] at g0'
    rw [cellsS] at g1'
    have l1 : Light Try.prog 9 y1.1 := light_parts Try.underlying30 hl (j := 1) rfl rfl
    obtain ⟨k, e0, rfl, wa⟩ := DataW.trod_int Try.underlying3 g0'
    obtain ⟨v, e1, rfl, -⟩ := DataW.trod_string Try.underlying9 g1'
    obtain rfl : c0 = .int .i64 k := by simpa using e0
    obtain rfl : c1 = .string v := by simpa using e1
    exact ⟨⟨k, v⟩, rfl, wf_I64 wa, light_str l1⟩
set_option maxRecDepth 100000 in
theorem open_pieces_arg {b0 : Nat} {r : Go.Reach} {v : Value} {d : DataW H} {p : List MemPlace} (hv : Value.okWide Try.prog w r b0 25 v) (h : DataW.Trod enc Try.prog w base spare held 25 v d p) (hl : Light Try.prog 25 d) :
    ∃ (A : Option Addr) (n c : Nat) (ps : List Pc), v = .slice A n c ∧ n ≤ Reach ∧ Pcs w A n ps := by
  obtain ⟨A, n, c, rfl⟩ := okWide_slice Try.underlying25 hv
  obtain ⟨m, hm⟩ := h
  have hm' : DataW.trod enc Try.prog w base spare held m 25 [.slice A n c] = some (d, p) := hm
  rcases open_slice Try.underlying25 hm' with ⟨hcs, _⟩ | ⟨a, len, cap, mm, n', D, Pl, hcs, _, hle, _, hmm, hx, hi⟩
  · obtain ⟨rfl, rfl, rfl⟩ : A = none ∧ n = 0 ∧ c = 0 := by simpa using hcs
    exact ⟨none, 0, 0, [], rfl, by decide, Pcs.nil _ _⟩
  · obtain ⟨rfl, rfl, rfl⟩ : A = some a ∧ n = len ∧ c = cap := by simpa using hcs
    simp only [Prod.mk.injEq] at hx
    obtain ⟨rfl, _⟩ := hx
    obtain ⟨h1, h2⟩ := light_slice Try.underlying25 hl
    rw [bytesPc, reach_eq] at h1
    simp only [List.length_map, List.length_range] at h1
    have hlm : n ≤ mm := by rw [hmm]; split <;> omega
    obtain ⟨V, hV⟩ := choose_lt (n := n) (α := Pc) (p := fun i v => v.wf ∧ w.cells? base (a.add (i * 2)) 2 = some v.cells) (fun i hin => by
      obtain ⟨cs', g1, g2⟩ := hi i (by omega)
      rw [cellsPc] at g1
      obtain ⟨k, rfl, hr⟩ := open_piece_cells g2 (h2 _ (by simp only [List.mem_map, List.mem_range]; exact ⟨i, hin, rfl⟩))
      exact ⟨k, hr, g1⟩)
    have hget : ∀ q, q < n → ((List.range n).map V)[q]? = some (V q) := fun q hq => by simp [hq]
    refine ⟨some a, n, c, (List.range n).map V, rfl, by omega, by simp, fun x hx => ?_, Cells.of_add a fun j u hu => ?_⟩
    · obtain ⟨i, hi1, rfl⟩ := List.mem_map.1 hx
      exact (hV i (List.mem_range.1 hi1)).1
    · have hj : j < n * 2 := by
        have := (List.getElem?_eq_some_iff.1 hu).1
        rw [flat_len pc_cells_len] at this
        simpa using this
      have hq : j / 2 < n := by omega
      have hr : j % 2 < 2 := Nat.mod_lt _ (by omega)
      have hjq : j = j / 2 * 2 + j % 2 := by omega
      have h3 := flat_get pc_cells_len _ (j / 2) (j % 2) _ (hget _ hq) hr
      rw [← hjq, hu] at h3
      obtain ⟨_, _, hat⟩ := World.cells?_some (hV _ hq).2
      have := hat (j % 2) hr
      rw [add_add', ← hjq] at this
      rw [this, ← h3]
end
end Go.Proofs.Ytmmppfopokbcfaa

/- A slice of tables that came in as an argument. -/
import Derived.Test.YtmagicjmenbdpaaOpenB
import Derived.Test.YtmagicjmenbdpaaMyDefs
namespace Go.Proofs.Ytmagicjmenbdpaa
open Go.ChangeShapes Go.WideShapes Go.ChangeAt Go.RowKit Go.Joins Go.Deep

instance : Inhabited TB := ⟨⟨none, 0, 0, []⟩⟩
theorem cellsI : Try.prog.cellsOf 3 = 1 := by kernel_rfl
theorem cellsIs : Try.prog.cellsOf 47 = 1 := by kernel_rfl
theorem bytesI : Try.prog.bytesOf 3 = 8 := by kernel_rfl
theorem bytesIs : Try.prog.bytesOf 47 = 24 := by kernel_rfl

section
variable {H : Type} {enc : TypeId × Value → H} {w : World} {base : Nat} {spare : Nat → Bool} {held : Bool}

theorem open_ints_any {fuel : Nat} {cs : List Value} {y : DataW H × List MemPlace} (h : DataW.trod enc Try.prog w base spare held fuel 47 cs = some y) (hl : Light Try.prog 47 y.1) :
    ∃ s : TB, cs = [.slice s.a s.n s.c] ∧ RTB w s ∧ ∀ x ∈ s.t, (Lit.int .i64 x).wf = true := by
  rcases open_ints Try.underlying47 Try.underlying3 cellsI h with ⟨hcs, _⟩ | ⟨a, len, cap, zs, hcs, _, hle, hm, hz, hx, hcell, hwf⟩
  · exact ⟨⟨none, 0, 0, []⟩, hcs, ⟨by decide, rfl, Cells.nil _ _⟩, by simp⟩
  · subst hx
    obtain ⟨h1, _⟩ := light_slice Try.underlying47 hl
    rw [bytesI, reach_eq] at h1
    have hss : len ≤ zs.length := by rw [hz]; split <;> omega
    simp only [lits, List.length_map, List.length_take] at h1
    refine ⟨⟨some a, len, cap, zs.take len⟩, hcs, ⟨by show len ≤ Reach; omega, by simp; omega, Cells.of_add a fun j u hu => ?_⟩, fun x hx => hwf x (List.mem_of_mem_take hx)⟩
    have hj : j < len := by
      have := (List.getElem?_eq_some_iff.1 hu).1
      simp at this
      omega
    have hc := hcell j (by omega)
    rw [hc, ← hu]
    simp [hj, List.getD, List.getElem?_eq_getElem (show j < zs.length by omega)]

theorem open_tables_arg {b0 : Nat} {r : Go.Reach} {v : Value} {d : DataW H} {p : List MemPlace} (hv : Value.okWide Try.prog w r b0 33 v) (h : DataW.Trod enc Try.prog w base spare held 33 v d p) (hl : Light Try.prog 33 d) :
    ∃ (A : Option Addr) (n c : Nat) (L : List TB), v = .slice A n c ∧ n ≤ Reach ∧ RTBs w A n L ∧ ∀ s ∈ L, ∀ x ∈ s.t, (Lit.int .i64 x).wf = true := by
  obtain ⟨A, n, c, rfl⟩ := okWide_slice Try.underlying33 hv
  obtain ⟨m, hm⟩ := h
  have hm' : DataW.trod enc Try.prog w base spare held m 33 [.slice A n c] = some (d, p) := hm
  rcases open_slice Try.underlying33 hm' with ⟨hcs, _⟩ | ⟨a, len, cap, mm, n', D, Pl, hcs, _, hle, _, hmm, hx, hi⟩
  · obtain ⟨rfl, rfl, rfl⟩ : A = none ∧ n = 0 ∧ c = 0 := by simpa using hcs
    exact ⟨none, 0, 0, [], rfl, by decide, ⟨rfl, by simp, Cells.nil _ _⟩, by simp⟩
  · obtain ⟨rfl, rfl, rfl⟩ : A = some a ∧ n = len ∧ c = cap := by simpa using hcs
    simp only [Prod.mk.injEq] at hx
    obtain ⟨rfl, _⟩ := hx
    obtain ⟨h1, h2⟩ := light_slice Try.underlying33 hl
    rw [bytesIs, reach_eq] at h1
    simp only [List.length_map, List.length_range] at h1
    have hlm : n ≤ mm := by rw [hmm]; split <;> omega
    obtain ⟨V, hV⟩ := choose_lt (n := n) (α := TB) (p := fun i s => (RTB w s ∧ ∀ x ∈ s.t, (Lit.int .i64 x).wf = true) ∧ w.cells? base (a.add (i * 1)) 1 = some [.slice s.a s.n s.c]) (fun i hin => by
      obtain ⟨cs', g1, g2⟩ := hi i (by omega)
      rw [cellsIs] at g1
      obtain ⟨s, rfl, hr⟩ := open_ints_any g2 (h2 (D i) (List.mem_map.2 ⟨i, List.mem_range.2 hin, rfl⟩))
      exact ⟨s, hr, g1⟩)
    refine ⟨some a, n, c, (List.range n).map V, rfl, by omega, ⟨by simp, fun s hs => ?_, Cells.of_add a fun j u hu => ?_⟩, fun s hs => ?_⟩
    · obtain ⟨i, hi1, rfl⟩ := List.mem_map.1 hs
      exact (hV i (List.mem_range.1 hi1)).1.1
    · have hj : j < n := by
        have := (List.getElem?_eq_some_iff.1 hu).1
        simpa using this
      simp [hj] at hu
      obtain ⟨_, _, hat⟩ := World.cells?_some (hV j hj).2
      have := hat 0 (by omega)
      rw [add_add, Nat.mul_one, Nat.add_zero] at this
      rw [this, ← hu]; rfl
    · obtain ⟨i, hi1, rfl⟩ := List.mem_map.1 hs
      exact (hV i (List.mem_range.1 hi1)).1.2
end
end Go.Proofs.Ytmagicjmenbdpaa

/- How a slice of pairs of ints is opened. No condition. -/
import Derived.Test.YtmmppfopokbcfaaTkOpen
import Derived.Test.YtmmppfopokbcfaaTkPrs
import Derived.ChangeSame
import Derived.OpenShut
namespace Go.Proofs.Ytmmppfopokbcfaa
open Go.ChangeShapes Go.WideShapes Go.ChangeAt Go.RowKit Go.Joins Go.Deep

theorem cellsPr : Try.prog.cellsOf 39 = 2 := by kernel_rfl
theorem bytesPr : Try.prog.bytesOf 39 = 16 := by kernel_rfl
theorem cellsQI : Try.prog.cellsOf 3 = 1 := by kernel_rfl
theorem wf_Q64 {x : Int} (h : (Lit.int .i64 x).wf = true) : I64 x := bounds_i64 h
theorem add_addQ (a : Addr) (i j : Nat) : (a.add i).add j = a.add (i + j) := by
  unfold Addr.add
  by_cases hi : i = 0
  · subst hi; simp
  · by_cases hj : j = 0
    · subst hj; simp [hi]
    · rw [if_neg hi, if_neg hj, if_neg (by omega)]; simp [Nat.add_assoc]

section
variable {H : Type} {enc : TypeId × Value → H} {w : World} {base : Nat} {spare : Nat → Bool} {held : Bool}
set_option maxRecDepth 100000 in
theorem open_pair_cells {n : Nat} {cs : List Value} {y : DataW H × List MemPlace} (h : DataW.trod enc Try.prog w base spare held n 39 cs = some y) :
    ∃ p : Int × Int, cs = prc p ∧ prwf p := by
  obtain ⟨xs, m, rfl, hx1, hlen, hn3, hel⟩ := DataW.trod_array Try.underlying39 h
  rw [cellsPr] at hlen
  match cs, hlen with
  | [c0, c1], _ =>
    have g0 := hel 0 (by omega)
    have g1 := hel 1 (by omega)
    rw [cellsQI, List.getElem?_eq_getElem (by omega)] at g0 g1
    have g0' : DataW.trod enc Try.prog w base spare held m 3 [c0] = some xs[0] := g0
    have g1' : DataW.trod enc Try.prog w base spare held m 3 [c1] = some xs[1] := g1
    obtain ⟨k0, e0, -, wa0⟩ := DataW.trod_int Try.underlying3 g0'
    obtain ⟨k1, e1, -, wa1⟩ := DataW.trod_int Try.underlying3 g1'
    obtain rfl : c0 = .int .i64 k0 := by simpa using e0
    obtain rfl : c1 = .int .i64 k1 := by simpa using e1
    exact ⟨(k0, k1), rfl, wf_Q64 wa0, wf_Q64 wa1⟩
set_option maxRecDepth 100000 in
theorem open_pairs2_arg {b0 : Nat} {r : Go.Reach} {v : Value} {d : DataW H} {p : List MemPlace} (hv : Value.okWide Try.prog w r b0 34 v) (h : DataW.Trod enc Try.prog w base spare held 34 v d p) (hl : Light Try.prog 34 d) :
    ∃ (A : Option Addr) (n c : Nat) (ps : List (Int × Int)), v = .slice A n c ∧ n ≤ Reach ∧ Prs w A n ps := by
  obtain ⟨A, n, c, rfl⟩ := okWide_slice Try.underlying34 hv
  obtain ⟨m, hm⟩ := h
  have hm' : DataW.trod enc Try.prog w base spare held m 34 [.slice A n c] = some (d, p) := hm
  rcases open_slice Try.underlying34 hm' with ⟨hcs, _⟩ | ⟨a, len, cap, mm, n', D, Pl, hcs, _, hle, _, hmm, hx, hi⟩
  · obtain ⟨rfl, rfl, rfl⟩ : A = none ∧ n = 0 ∧ c = 0 := by simpa using hcs
    exact ⟨none, 0, 0, [], rfl, by decide, Prs.nil _ _⟩
  · obtain ⟨rfl, rfl, rfl⟩ : A = some a ∧ n = len ∧ c = cap := by simpa using hcs
    simp only [Prod.mk.injEq] at hx
    obtain ⟨rfl, _⟩ := hx
    obtain ⟨h1, h2⟩ := light_slice Try.underlying34 hl
    rw [bytesPr, reach_eq] at h1
    simp only [List.length_map, List.length_range] at h1
    have hlm : n ≤ mm := by rw [hmm]; split <;> omega
    obtain ⟨V, hV⟩ := choose_lt (n := n) (α := Int × Int) (p := fun i v => prwf v ∧ w.cells? base (a.add (i * 2)) 2 = some (prc v)) (fun i hin => by
      obtain ⟨cs', g1, g2⟩ := hi i (by omega)
      rw [cellsPr] at g1
      obtain ⟨k, rfl, hr⟩ := open_pair_cells g2
      exact ⟨k, hr, g1⟩)
    have hget : ∀ q, q < n → ((List.range n).map V)[q]? = some (V q) := fun q hq => by simp [hq]
    refine ⟨some a, n, c, (List.range n).map V, rfl, by omega, by simp, fun x hx => ?_, Cells.of_add a fun j u hu => ?_⟩
    · obtain ⟨i, hi1, rfl⟩ := List.mem_map.1 hx
      exact (hV i (List.mem_range.1 hi1)).1
    · have hj : j < n * 2 := by
        have := (List.getElem?_eq_some_iff.1 hu).1
        rw [flat_len prc_len] at this
        simpa using this
      have hq : j / 2 < n := by omega
      have hr : j % 2 < 2 := Nat.mod_lt _ (by omega)
      have hjq : j = j / 2 * 2 + j % 2 := by omega
      have h3 := flat_get prc_len _ (j / 2) (j % 2) _ (hget _ hq) hr
      rw [← hjq, hu] at h3
      obtain ⟨_, _, hat⟩ := World.cells?_some (hV _ hq).2
      have := hat (j % 2) hr
      rw [add_addQ, ← hjq] at this
      rw [this, ← h3]
end
end Go.Proofs.Ytmmppfopokbcfaa

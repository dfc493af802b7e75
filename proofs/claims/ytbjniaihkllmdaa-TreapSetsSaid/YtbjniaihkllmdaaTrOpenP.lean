/- From the reading of an argument to what the walks ask: slices of pairs, of bytes. -/
import Derived.Test.YtbjniaihkllmdaaTrOpen
namespace Go.Proofs.Ytbjniaihkllmdaa
open Go.ChangeShapes Go.WideShapes Go.ChangeAt Go.RowKit Go.Joins Go.Deep

theorem bounds_u8 {x : Int} (h : (Lit.int .u8 x).wf = true) : 0 ≤ x ∧ x < 256 := by
  simp only [Lit.wf, Bool.and_eq_true, decide_eq_true_eq] at h
  have h1 : (0 : Int) ≤ x := h.1
  have h2 : x ≤ 255 := h.2
  omega
instance : Inhabited Pr := ⟨⟨⟨#[]⟩, ⟨#[]⟩⟩⟩
theorem cellsU8 : Try.prog.cellsOf 5 = 1 := by kernel_rfl
theorem bytesU8 : Try.prog.bytesOf 5 = 1 := by kernel_rfl
/-- Numbers of eight bits in memory. -/
def Byt (w : World) (A : Option Addr) (n : Nat) (l : List Int) : Prop := l.length = n ∧ (∀ x ∈ l, 0 ≤ x ∧ x < 256) ∧ Cells w A (l.map (.int .u8))
theorem Byt.ext {w w' : World} {A : Option Addr} {n : Nat} {l : List Int} (h : Byt w A n l) (e : Ext w w') : Byt w' A n l := ⟨h.1, h.2.1, h.2.2.ext e⟩
theorem Byt.get {w : World} {A : Option Addr} {n : Nat} {l : List Int} (h : Byt w A n l) {j : Nat} (hj : j < n) : ∃ b off x, A = some ⟨b, off, none⟩ ∧ b < w.heap.size ∧ l[j]? = some x ∧ 0 ≤ x ∧ x < 256 ∧ w.cell? ⟨b, off + j, none⟩ = some (.int .u8 x) := by
  have hl : j < l.length := by rw [h.1]; exact hj
  obtain ⟨b, off, h1, h2, h3⟩ := h.2.2.get (k := j) (by rw [List.length_map]; exact hl)
  have hm := h.2.1 _ (List.getElem_mem hl)
  exact ⟨b, off, l[j], h1, h2, List.getElem?_eq_getElem hl, hm.1, hm.2, h3 j _ (by simp [hl])⟩
theorem add_add' (a : Addr) (i j : Nat) : (a.add i).add j = a.add (i + j) := by
  unfold Addr.add
  by_cases hi : i = 0
  · subst hi; simp
  · by_cases hj : j = 0
    · subst hj; simp [hi]
    · rw [if_neg hi, if_neg hj, if_neg (by omega)]; simp [Nat.add_assoc]

section
variable {H : Type} {enc : TypeId × Value → H} {w : World} {base : Nat} {spare : Nat → Bool} {held : Bool}
theorem open_pair_cells {n : Nat} {cs : List Value} {y : DataW H × List MemPlace} (h : DataW.trod enc Try.prog w base spare held n 34 cs = some y) (hl : Light Try.prog 34 y.1) :
    ∃ p : Pr, cs = p.cells ∧ p.wf := by
  obtain ⟨y0, y1, m, rfl, hlen, hy0, hy1⟩ := trod_struct2 Try.underlying34 h
  rw [cellsP] at hlen
  match cs, hlen with
  | [c0, c1], _ =>
    have g0' : DataW.trod enc Try.prog w base spare held m 9 (List.take (Try.prog.cellsOf 9) [c0, c1]) = some y0 := hy0
    have g1' : DataW.trod enc Try.prog w base spare held m 9 (List.take (Try.prog.cellsOf 9) [c1]) = some y1 := hy1
    rw [cellsS] at g0' g1'
    have l0 : Light Try.prog 9 y0.1 := light_parts Try.underlying34 hl (j := 0) rfl rfl
    have l1 : Light Try.prog 9 y1.1 := light_parts Try.underlying34 hl (j := 1) rfl rfl
    obtain ⟨k, e0, rfl, -⟩ := DataW.trod_string Try.underlying9 g0'
    obtain ⟨v, e1, rfl, -⟩ := DataW.trod_string Try.underlying9 g1'
    obtain rfl : c0 = .string k := by simpa using e0
    obtain rfl : c1 = .string v := by simpa using e1
    exact ⟨⟨k, v⟩, rfl, light_str l0, light_str l1⟩
theorem open_pairs_arg {b0 : Nat} {r : Go.Reach} {v : Value} {d : DataW H} {p : List MemPlace} (hv : Value.okWide Try.prog w r b0 31 v) (h : DataW.Trod enc Try.prog w base spare held 31 v d p) (hl : Light Try.prog 31 d) :
    ∃ (A : Option Addr) (n c : Nat) (ps : List Pr), v = .slice A n c ∧ n ≤ Reach ∧ Prs w A n ps := by
  obtain ⟨A, n, c, rfl⟩ := okWide_slice Try.underlying31 hv
  obtain ⟨m, hm⟩ := h
  have hm' : DataW.trod enc Try.prog w base spare held m 31 [.slice A n c] = some (d, p) := hm
  rcases open_slice Try.underlying31 hm' with ⟨hcs, _⟩ | ⟨a, len, cap, mm, n', D, Pl, hcs, _, hle, _, hmm, hx, hi⟩
  · obtain ⟨rfl, rfl, rfl⟩ : A = none ∧ n = 0 ∧ c = 0 := by simpa using hcs
    exact ⟨none, 0, 0, [], rfl, by decide, Prs.nil _ _⟩
  · obtain ⟨rfl, rfl, rfl⟩ : A = some a ∧ n = len ∧ c = cap := by simpa using hcs
    simp only [Prod.mk.injEq] at hx
    obtain ⟨rfl, _⟩ := hx
    obtain ⟨h1, h2⟩ := light_slice Try.underlying31 hl
    rw [bytesP, reach_eq] at h1
    simp only [List.length_map, List.length_range] at h1
    have hlm : n ≤ mm := by rw [hmm]; split <;> omega
    obtain ⟨V, hV⟩ := choose_lt (n := n) (α := Pr) (p := fun i v => v.wf ∧ w.cells? base (a.add (i * 2)) 2 = some v.cells) (fun i hin => by
      obtain ⟨cs', g1, g2⟩ := hi i (by omega)
      rw [cellsP] at g1
      obtain ⟨k, rfl, hr⟩ := open_pair_cells g2 (h2 _ (by simp only [List.mem_map, List.mem_range]; exact ⟨i, hin, rfl⟩))
      exact ⟨k, hr, g1⟩)
    have hget : ∀ q, q < n → ((List.range n).map V)[q]? = some (V q) := fun q hq => by simp [hq]
    refine ⟨some a, n, c, (List.range n).map V, rfl, by omega, by simp, fun x hx => ?_, Cells.of_add a fun j u hu => ?_⟩
    · obtain ⟨i, hi1, rfl⟩ := List.mem_map.1 hx
      exact (hV i (List.mem_range.1 hi1)).1
    · have hj : j < n * 2 := by
        have := (List.getElem?_eq_some_iff.1 hu).1
        rw [flat_len pr_cells_len] at this
        simpa using this
      have hq : j / 2 < n := by omega
      have hr : j % 2 < 2 := Nat.mod_lt _ (by omega)
      have hjq : j = j / 2 * 2 + j % 2 := by omega
      have h3 := flat_get pr_cells_len _ (j / 2) (j % 2) _ (hget _ hq) hr
      rw [← hjq, hu] at h3
      obtain ⟨_, _, hat⟩ := World.cells?_some (hV _ hq).2
      have := hat (j % 2) hr
      rw [add_add', ← hjq] at this
      rw [this, ← h3]
theorem open_bytes_arg {b0 : Nat} {r : Go.Reach} {v : Value} {d : DataW H} {p : List MemPlace} (hv : Value.okWide Try.prog w r b0 32 v) (h : DataW.Trod enc Try.prog w base spare held 32 v d p) (hl : Light Try.prog 32 d) :
    ∃ (A : Option Addr) (n c : Nat) (ps : List Int), v = .slice A n c ∧ n ≤ Reach ∧ Byt w A n ps := by
  obtain ⟨A, n, c, rfl⟩ := okWide_slice Try.underlying32 hv
  obtain ⟨m, hm⟩ := h
  have hm' : DataW.trod enc Try.prog w base spare held m 32 [.slice A n c] = some (d, p) := hm
  rcases open_slice Try.underlying32 hm' with ⟨hcs, _⟩ | ⟨a, len, cap, mm, n', D, Pl, hcs, _, hle, _, hmm, hx, hi⟩
  · obtain ⟨rfl, rfl, rfl⟩ : A = none ∧ n = 0 ∧ c = 0 := by simpa using hcs
    exact ⟨none, 0, 0, [], rfl, by decide, rfl, by simp, Cells.nil _ _⟩
  · obtain ⟨rfl, rfl, rfl⟩ : A = some a ∧ n = len ∧ c = cap := by simpa using hcs
    simp only [Prod.mk.injEq] at hx
    obtain ⟨rfl, _⟩ := hx
    obtain ⟨h1, h2⟩ := light_slice Try.underlying32 hl
    rw [bytesU8, reach_eq] at h1
    simp only [List.length_map, List.length_range] at h1
    have hlm : n ≤ mm := by rw [hmm]; split <;> omega
    obtain ⟨V, hV⟩ := choose_lt (n := n) (α := Int) (p := fun i v => (0 ≤ v ∧ v < 256) ∧ w.cells? base (a.add (i * 1)) 1 = some [.int .u8 v]) (fun i hin => by
      obtain ⟨cs', g1, g2⟩ := hi i (by omega)
      rw [cellsU8] at g1
      obtain ⟨x, rfl, -, hwf⟩ := DataW.trod_int Try.underlying5 g2
      refine ⟨x, ?_, g1⟩
      have hh := bounds_u8 hwf
      exact hh)
    refine ⟨some a, n, c, (List.range n).map V, rfl, by omega, by simp, fun x hx => ?_, Cells.of_add a fun j u hu => ?_⟩
    · obtain ⟨i, hi1, rfl⟩ := List.mem_map.1 hx
      exact (hV i (List.mem_range.1 hi1)).1
    · have hj : j < n := by
        have := (List.getElem?_eq_some_iff.1 hu).1
        simpa using this
      obtain ⟨_, _, hat⟩ := World.cells?_some (hV _ hj).2
      have := hat 0 (by omega)
      rw [add_add', Nat.mul_one, Nat.add_zero] at this
      rw [this, ← hu]
      simp [hj]
end
end Go.Proofs.Ytbjniaihkllmdaa

/- How the arguments of TopForgery are opened: two strings, a signature. No condition. -/
import Derived.Test.YtmmcjcaccicheaaOpenB
import Derived.Test.YtmmcjcaccicheaaTfBsl
import Derived.ChangeSame
import Derived.ChangeArms
import Derived.Lib.SmallJoins
import Derived.Test.YtmmcjcaccicheaaTfChk
namespace Go.Proofs.Ytmmcjcaccicheaa
open Go.ChangeShapes Go.WideShapes Go.ChangeAt Go.RowKit Go.Joins Go.Deep
theorem cellsDg : Try.prog.cellsOf 34 = 32 := by kernel_rfl
theorem bytesDg : Try.prog.bytesOf 34 = 32 := by kernel_rfl
theorem cellsU8 : Try.prog.cellsOf 5 = 1 := by kernel_rfl
theorem cellsS2 : Try.prog.cellsOf 22 = 2 := by kernel_rfl
theorem cellsSg : Try.prog.cellsOf 25 = 4 := by kernel_rfl
theorem oneSg : oneCellFields Try.prog #[{ name := "Index", type := 3, offset := 0, embedded := false, tag := "", pkgPath := "", byteOffset := 0 }, { name := "Revealed", type := 23, offset := 1, embedded := false, tag := "", pkgPath := "", byteOffset := 8 }, { name := "Others", type := 23, offset := 2, embedded := false, tag := "", pkgPath := "", byteOffset := 32 }, { name := "Path", type := 23, offset := 3, embedded := false, tag := "", pkgPath := "", byteOffset := 56 }] = true := by kernel_rfl
theorem add_addD (a : Addr) (i j : Nat) : (a.add i).add j = a.add (i + j) := by
  unfold Addr.add
  by_cases hi : i = 0
  · subst hi; simp
  · by_cases hj : j = 0
    · subst hj; simp [hi]
    · rw [if_neg hi, if_neg hj, if_neg (by omega)]; simp [Nat.add_assoc]
theorem wf_u8 {n : Int} (h : (Lit.int .u8 n).wf = true) : ∃ x : UInt8, n = ub x := by
  simp only [Lit.wf, IntKind.min, IntKind.max, IntKind.signed, IntKind.bits, Bool.and_eq_true, decide_eq_true_eq] at h
  have h0 : 0 ≤ n := by simpa using h.1
  have h1 : n ≤ 255 := by simpa using h.2
  refine ⟨UInt8.ofNat n.toNat, ?_⟩
  unfold ub
  rw [UInt8.toNat_ofNat']
  omega
section
variable {H : Type} {enc : TypeId × Value → H} {w : World} {base : Nat} {spare : Nat → Bool} {held : Bool}
/-- Bytes one behind the other. -/
theorem bytes_of : ∀ (cs : List Value), (∀ i, i < cs.length → ∃ x : UInt8, cs[i]? = some (bv x)) → ∃ d : Bs, cs = dgl d
  | [], _ => ⟨[], rfl⟩
  | c :: r, h => by
    obtain ⟨x, hx⟩ := h 0 (by simp)
    obtain ⟨d, hd⟩ := bytes_of r (fun i hi => by
      obtain ⟨y, hy⟩ := h (i + 1) (by simpa using hi)
      exact ⟨y, by simpa using hy⟩)
    refine ⟨x :: d, ?_⟩
    obtain rfl : c = bv x := by simpa using hx
    rw [hd]; rfl
set_option maxRecDepth 100000 in
theorem open_dg_cells {n : Nat} {cs : List Value} {y : DataW H × List MemPlace} (h : DataW.trod enc Try.prog w base spare held n 34 cs = some y) :
    ∃ d : Bs, cs = dgl d ∧ d.length = 32 := by
  obtain ⟨xs, m, rfl, hx1, hlen, hn3, hel⟩ := DataW.trod_array uDg h
  rw [cellsDg] at hlen
  obtain ⟨d, rfl⟩ := bytes_of cs (fun i hi => by
    have g := hel i (by omega)
    rw [cellsU8, Nat.mul_one, List.getElem?_eq_getElem (by omega)] at g
    obtain ⟨k, e, -, wa⟩ := DataW.trod_int Try.underlying5 g
    obtain ⟨x, rfl⟩ := wf_u8 wa
    refine ⟨x, ?_⟩
    have : (cs.drop i)[0]? = some (bv x) := by
      have h1 : ((cs.drop i).take 1)[0]? = some (bv x) := by rw [e]; rfl
      simpa using h1
    simpa using this)
  exact ⟨d, rfl, by rw [dgl_len] at hlen; exact hlen⟩
set_option maxRecDepth 100000 in
theorem open_dgs {n : Nat} {v : Value} {y : DataW H × List MemPlace} (h : DataW.trod enc Try.prog w base spare held n 23 [v] = some y) (hl : Light Try.prog 23 y.1) :
    ∃ (A : Option Addr) (n c : Nat) (l : List Bs), v = .slice A n c ∧ l.length = n ∧ DgS w v l := by
  rcases open_slice Try.underlying23 h with ⟨hcs, _⟩ | ⟨a, len, cap, mm, n', D, Pl, hcs, _, hle, _, hmm, hx, hi⟩
  · obtain rfl : v = .slice none 0 0 := by simpa using hcs
    exact ⟨none, 0, 0, [], rfl, rfl, by simp, none, 0, rfl, .inl rfl⟩
  · obtain rfl : v = .slice (some a) len cap := by simpa using hcs
    subst hx
    obtain ⟨h1, h2⟩ := light_slice Try.underlying23 hl
    rw [bytesDg, reach_eq] at h1
    simp only [List.length_map, List.length_range] at h1
    have hlm : len ≤ mm := by rw [hmm]; split <;> omega
    obtain ⟨V, hV⟩ := choose_lt (n := len) (α := Bs) (p := fun i d => d.length = 32 ∧ w.cells? base (a.add (i * 32)) 32 = some (dgl d)) (fun i hin => by
      obtain ⟨cs', g1, g2⟩ := hi i (by omega)
      rw [cellsDg] at g1
      obtain ⟨d, rfl, hr⟩ := open_dg_cells g2
      exact ⟨d, hr, g1⟩)
    have hwf : ∀ d ∈ (List.range len).map V, d.length = 32 := fun x hx => by
      obtain ⟨i, hi1, rfl⟩ := List.mem_map.1 hx
      exact (hV i (List.mem_range.1 hi1)).1
    have hget : ∀ q, q < len → ((List.range len).map V)[q]? = some (V q) := fun q hq => by simp [hq]
    refine ⟨some a, len, cap, (List.range len).map V, rfl, by simp, hwf, some a, cap, by simp, Cells.of_add a fun j u hu => ?_⟩
    have hj : j < 32 * len := by
      have := (List.getElem?_eq_some_iff.1 hu).1
      rw [dgs_len _ hwf] at this
      simpa using this
    have hq : j / 32 < len := by omega
    have hr : j % 32 < 32 := Nat.mod_lt _ (by omega)
    have hjq : j = 32 * (j / 32) + j % 32 := by omega
    obtain ⟨hv1, hv2⟩ := hV _ hq
    have hx : (V (j / 32))[j % 32]? = some ((V (j / 32))[j % 32]'(by omega)) := List.getElem?_eq_getElem (by omega)
    have h3 := dgs_get hwf (hget _ hq) hx
    rw [← hjq, hu] at h3
    obtain ⟨_, _, hat⟩ := World.cells?_some hv2
    have := hat (j % 32) hr
    rw [add_addD, show j / 32 * 32 + j % 32 = j by omega] at this
    rw [this, h3]
    exact dgl_get hx
set_option maxRecDepth 100000 in
theorem open_sg {b0 : Nat} {r : Go.Reach} {v : Value} {d : DataW H} {p : List MemPlace} (hv : Value.okWide Try.prog w r b0 25 v) (h : DataW.Trod enc Try.prog w base spare held 25 v d p) (hl : Light Try.prog 25 d) :
    ∃ (i : Int) (A : Option Addr) (n c : Nat) (l : List Bs) (A' : Option Addr) (n' c' : Nat) (l' : List Bs) (A'' : Option Addr) (n'' c'' : Nat) (l'' : List Bs), v = .agg (sgc i (.slice A n c) (.slice A' n' c') (.slice A'' n'' c'')) ∧
      l.length = n ∧ DgS w (.slice A n c) l ∧ l'.length = n' ∧ DgS w (.slice A' n' c') l' ∧ l''.length = n'' ∧ DgS w (.slice A'' n'' c'') l'' := by
  obtain ⟨c0, c1, c2, c3, y0, y1, y2, y3, m, rfl, rfl, rfl, hy0, hy1, hy2, hy3⟩ := open_agg4 Try.underlying25 oneSg cellsSg hv h
  obtain ⟨i, e0, rfl, -⟩ := DataW.trod_int Try.underlying3 hy0
  obtain rfl : c0 = .int .i64 i := by simpa using e0
  have l1 : Light Try.prog 23 y1.1 := light_parts Try.underlying25 hl (j := 1) rfl rfl
  have l2 : Light Try.prog 23 y2.1 := light_parts Try.underlying25 hl (j := 2) rfl rfl
  have l3 : Light Try.prog 23 y3.1 := light_parts Try.underlying25 hl (j := 3) rfl rfl
  obtain ⟨A, n, c, l, rfl, hn, hs⟩ := open_dgs hy1 l1
  obtain ⟨A', n', c', l', rfl, hn', hs'⟩ := open_dgs hy2 l2
  obtain ⟨A'', n'', c'', l'', rfl, hn'', hs''⟩ := open_dgs hy3 l3
  exact ⟨i, A, n, c, l, A', n', c', l', A'', n'', c'', l'', rfl, hn, hs, hn', hs', hn'', hs''⟩
set_option maxRecDepth 100000 in
theorem open_two {b0 : Nat} {r : Go.Reach} {v : Value} {d : DataW H} {p : List MemPlace} (hv : Value.okWide Try.prog w r b0 22 v) (h : DataW.Trod enc Try.prog w base spare held 22 v d p) :
    ∃ a b : ByteArray, v = .agg #[.string a, .string b] := by
  have hv' := hv
  simp only [Value.okWide, Try.underlying22] at hv'
  obtain ⟨cs, rfl, hsz, -⟩ := hv'
  rw [cellsS2] at hsz
  obtain ⟨m, hm⟩ := h
  have hm' : DataW.trod enc Try.prog w base spare held m 22 cs.toList = some (d, p) := hm
  obtain ⟨xs, m', rfl, hx1, hlen, hn3, hel⟩ := DataW.trod_array Try.underlying22 hm'
  rw [cellsS2] at hlen
  have hcs : cs = cs.toList.toArray := by simp
  match hq : cs.toList, hlen with
  | [c0, c1], _ =>
    have g0 := hel 0 (by omega)
    have g1 := hel 1 (by omega)
    rw [hq, cellsS, List.getElem?_eq_getElem (by omega)] at g0 g1
    obtain ⟨a, e0, -, -⟩ := DataW.trod_string Try.underlying9 g0
    obtain ⟨b, e1, -, -⟩ := DataW.trod_string Try.underlying9 g1
    obtain rfl : c0 = .string a := by simpa using e0
    obtain rfl : c1 = .string b := by simpa using e1
    exact ⟨a, b, by rw [hcs, hq]⟩
set_option maxRecDepth 100000 in
theorem open_str1 {b0 : Nat} {r : Go.Reach} {v : Value} (hv : Value.okWide Try.prog w r b0 9 v) : ∃ s : ByteArray, v = .string s := okWide_string Try.underlying9 hv
set_option maxRecDepth 100000 in
theorem open_byte {b0 : Nat} {r : Go.Reach} {v : Value} {d : DataW H} {p : List MemPlace} (hv : Value.okWide Try.prog w r b0 5 v) (h : DataW.Trod enc Try.prog w base spare held 5 v d p) : ∃ x : UInt8, v = bv x := by
  obtain ⟨n, rfl, -, -, hw⟩ := open_int Try.underlying5 hv h
  obtain ⟨x, rfl⟩ := wf_u8 hw
  exact ⟨x, rfl⟩
end
end Go.Proofs.Ytmmcjcaccicheaa

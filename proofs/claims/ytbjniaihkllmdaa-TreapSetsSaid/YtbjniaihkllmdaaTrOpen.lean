/- From the reading of an argument to what the walks ask: maps, strings, slices of pairs, bytes. -/
import Derived.Test.YtbjniaihkllmdaaTrSameL
import Derived.ProofKit
import Derived.OpenShut
import Derived.ShutString
import Derived.ChangeOld
import Derived.SizedLaws
import Derived.Deep.Slices
import Derived.Deep.Strs
namespace Go.Proofs.Ytbjniaihkllmdaa
open Go.ChangeShapes Go.WideShapes Go.ChangeAt Go.RowKit Go.Joins Go.Deep

section
variable {H : Type} {enc : TypeId × Value → H} {P : Program} {w : World} {base : Nat} {spare : Nat → Bool} {held : Bool}

/-- All that a datum weighs lies within the reach. -/
def Light (P : Program) (t : TypeId) (d : DataW H) : Prop := ∀ n ∈ d.weights P t, n ≤ reachBytes

theorem light_arg {ts : List TypeId} {ds : List (DataW H)} (h : (DataW.weightsEach P ts ds).all (· ≤ reachBytes) = true) {j : Nat} {t : TypeId} {d : DataW H} (ht : ts[j]? = some t) (hd : ds[j]? = some d) : Light P t d := fun n hn => by
  have := List.all_eq_true.1 h _ (DataW.weights_mem_each ht hd n hn)
  simpa using this

theorem light_all {e : TypeId} : ∀ {l : List (DataW H)}, (∀ n ∈ DataW.weightsAll P e l, n ≤ reachBytes) → ∀ d ∈ l, Light P e d
  | d :: r, h, x, hx => by
    simp only [DataW.weightsAll, List.mem_append] at h
    rcases List.mem_cons.1 hx with rfl | hx
    · exact fun n hn => h n (.inl hn)
    · exact light_all (fun n hn => h n (.inr hn)) x hx

theorem light_slice {t e : TypeId} {elems sp : List (DataW H)} (ht : P.underlying t = some (.slice e)) (h : Light P t (.slice elems sp)) : (elems.length + sp.length) * P.bytesOf e ≤ reachBytes ∧ ∀ d ∈ elems, Light P e d := by
  unfold Light at h
  simp only [DataW.weights, ht] at h
  refine ⟨h _ (by simp), light_all fun n hn => h n ?_⟩
  simp [hn]

theorem light_parts {t : TypeId} {fs : Array Field} {parts : List (DataW H)} (ht : P.underlying t = some (.struct fs)) (h : Light P t (.agg parts)) {j : Nat} {f : Field} {d : DataW H} (hf : fs[j]? = some f) (hd : parts[j]? = some d) : Light P f.type d := fun n hn => by
  unfold Light at h
  simp only [DataW.weights, ht] at h
  exact h n (DataW.weights_mem_each (by simp [hf]) hd n hn)

theorem reach_eq : reachBytes = Reach := rfl

end
theorem cellsS : Try.prog.cellsOf 9 = 1 := by kernel_rfl
theorem cellsN : Try.prog.cellsOf 63 = 4 := by kernel_rfl
theorem cellsM : Try.prog.cellsOf 23 = 1 := by kernel_rfl
theorem bytesN : Try.prog.bytesOf 63 = 80 := by kernel_rfl
theorem cellsP : Try.prog.cellsOf 34 = 2 := by kernel_rfl
theorem bytesP : Try.prog.bytesOf 34 = 32 := by kernel_rfl

section
variable {H : Type} {enc : TypeId × Value → H} {w : World} {base : Nat} {spare : Nat → Bool} {held : Bool}
theorem light_str {t : TypeId} {s : ByteArray} (h : Light (H := H) Try.prog t (.lit (.string s.data.toList))) : s.size ≤ Reach := by
  have := h s.data.toList.length (by simp [DataW.weights])
  rw [reach_eq] at this
  have e : s.size = s.data.toList.length := by cases s; rfl
  omega
theorem open_string_arg {b0 : Nat} {r : Go.Reach} {v : Value} {d : DataW H} {p : List MemPlace} (hv : Value.okWide Try.prog w r b0 9 v) (h : DataW.Trod enc Try.prog w base spare held 9 v d p) (hl : Light Try.prog 9 d) :
    ∃ s : ByteArray, v = .string s ∧ s.size ≤ Reach := by
  obtain ⟨s', rfl⟩ := okWide_string Try.underlying9 hv
  obtain ⟨m, hm⟩ := h
  have hm' : DataW.trod enc Try.prog w base spare held m 9 [.string s'] = some (d, p) := hm
  obtain ⟨s, hcs, hx, -⟩ := DataW.trod_string Try.underlying9 hm'
  obtain rfl : s' = s := by simpa using hcs
  simp only [Prod.mk.injEq] at hx
  obtain ⟨rfl, _⟩ := hx
  exact ⟨s', rfl, light_str hl⟩

theorem add_none (b o n : Nat) : (⟨b, o, none⟩ : Addr).add n = ⟨b, o + n, none⟩ := by
  unfold Addr.add
  by_cases h : n = 0
  · subst h; rw [if_pos rfl, Nat.add_zero]
  · rw [if_neg h]
/-- The four fields of a node. -/
theorem open_node_cells {n : Nat} {cs : List Value} {y : DataW H × List MemPlace} (h : DataW.trod enc Try.prog w base spare held n 63 cs = some y) (hl : Light Try.prog 63 y.1) :
    ∃ (m : Nat) (k v : ByteArray) (vl vr : Value) (yl yr : DataW H × List MemPlace), n = m + 1 ∧ cs = [.string k, .string v, vl, vr] ∧ (k.size ≤ Reach ∧ v.size ≤ Reach) ∧
      DataW.trod enc Try.prog w base spare held m 23 [vl] = some yl ∧ Light Try.prog 23 yl.1 ∧ DataW.trod enc Try.prog w base spare held m 23 [vr] = some yr ∧ Light Try.prog 23 yr.1 := by
  obtain ⟨xs, m, rfl, rfl, hlen, hfs, hf⟩ := DataW.trod_struct Try.underlying63 h
  rw [cellsN] at hlen
  match xs, hfs with
  | [y0, y1, y2, y3], _ =>
    match cs, hlen with
    | [c0, c1, c2, c3], _ =>
      have g0 := hf 0 _ rfl
      have g1 := hf 1 _ rfl
      have g2 := hf 2 _ rfl
      have g3 := hf 3 _ rfl
      have g0' : DataW.trod enc Try.prog w base spare held m 9 (List.take (Try.prog.cellsOf 9) [c0, c1, c2, c3]) = some y0 := g0
      have g1' : DataW.trod enc Try.prog w base spare held m 9 (List.take (Try.prog.cellsOf 9) [c1, c2, c3]) = some y1 := g1
      have g2' : DataW.trod enc Try.prog w base spare held m 23 (List.take (Try.prog.cellsOf 23) [c2, c3]) = some y2 := g2
      have g3' : DataW.trod enc Try.prog w base spare held m 23 (List.take (Try.prog.cellsOf 23) [c3]) = some y3 := g3
      rw [cellsS] at g0' g1'
      rw [cellsM] at g2' g3'
      have l0 : Light Try.prog 9 y0.1 := light_parts Try.underlying63 hl (j := 0) rfl rfl
      have l1 : Light Try.prog 9 y1.1 := light_parts Try.underlying63 hl (j := 1) rfl rfl
      have l2 : Light Try.prog 23 y2.1 := light_parts Try.underlying63 hl (j := 2) rfl rfl
      have l3 : Light Try.prog 23 y3.1 := light_parts Try.underlying63 hl (j := 3) rfl rfl
      obtain ⟨k, e0, rfl, -⟩ := DataW.trod_string Try.underlying9 g0'
      obtain ⟨v, e1, rfl, -⟩ := DataW.trod_string Try.underlying9 g1'
      obtain rfl : c0 = .string k := by simpa using e0
      obtain rfl : c1 = .string v := by simpa using e1
      exact ⟨m, k, v, c2, c3, y2, y3, rfl, rfl, ⟨light_str l0, light_str l1⟩, g2', l2, g3', l3⟩

theorem open_map_any : ∀ (m : Nat) (v : Value) (y : DataW H × List MemPlace), DataW.trod enc Try.prog w base spare held m 23 [v] = some y → Light Try.prog 23 y.1 →
    ∃ (A : Option Addr) (n c : Nat) (t : MT), v = .slice A n c ∧ MapAt w t A n := by
  intro m
  induction m using Nat.strongRecOn with
  | _ m ih =>
    intro v y h hl
    rcases DataW.trod_slice Try.underlying23 h with ⟨hcs, _⟩ | ⟨a, len, cap, elems, rest, n, rfl, hcs, rfl, hb, hle, _, hel, hi, _⟩
    · obtain rfl : v = .slice none 0 0 := by simpa using hcs
      exact ⟨none, 0, 0, .nil, rfl, MapAt.nil _ _⟩
    · obtain rfl : v = .slice (some a) len cap := by simpa using hcs
      obtain ⟨h1, h2⟩ := light_slice Try.underlying23 hl
      rw [bytesN, reach_eq] at h1
      simp only [List.length_map] at h1
      have hnode : ∀ i, i < len → ∃ (k v : ByteArray) (Al : Option Addr) (nl cl : Nat) (Ar : Option Addr) (nr cr : Nat) (tl tr : MT), w.cells? base (a.add (i * 4)) 4 = some [.string k, .string v, .slice Al nl cl, .slice Ar nr cr] ∧ (k.size ≤ Reach ∧ v.size ≤ Reach) ∧ MapAt w tl Al nl ∧ MapAt w tr Ar nr := by
        intro i hil
        have g := hi i hil
        rw [cellsN] at g
        have hil' : i < elems.length := by omega
        rw [List.getElem?_eq_getElem hil'] at g
        obtain ⟨cs', g1, g2⟩ := Option.bind_eq_some_iff.1 g
        have hle : Light Try.prog 63 (elems[i]).1 := h2 _ (by simp only [List.mem_map]; exact ⟨elems[i], List.getElem_mem hil', rfl⟩)
        obtain ⟨m', k, v, vl, vr, yl, yr, rfl, rfl, hks, gl, ll, gr, lr⟩ := open_node_cells g2 hle
        obtain ⟨Al, nl, cl, tl, rfl, hml⟩ := ih m' (by omega) vl yl gl ll
        obtain ⟨Ar, nr, cr, tr, rfl, hmr⟩ := ih m' (by omega) vr yr gr lr
        exact ⟨k, v, Al, nl, cl, Ar, nr, cr, tl, tr, g1, hks, hml, hmr⟩
      by_cases h0 : len = 0
      · subst h0
        exact ⟨some a, 0, cap, .nil, rfl, MapAt.nil _ _⟩
      · have hspot : a.spot = none := by
          obtain ⟨k, v, Al, nl, cl, Ar, nr, cr, tl, tr, g1, -⟩ := hnode 0 (by omega)
          obtain ⟨_, _, hat⟩ := World.cells?_some g1
          have := hat 0 (by omega)
          simpa [Addr.add] using World.cell?_spot (this.trans rfl)
        obtain ⟨b, off, spot⟩ := a
        dsimp only at hspot
        subst hspot
        have hrow : ∀ j, j ≤ len → ∃ t : MT, t.len = j ∧ Row w t b (off + (len - j) * 4) := by
          intro j
          induction j with
          | zero => exact fun _ => ⟨.nil, rfl, trivial⟩
          | succ j ihj =>
            intro hj
            obtain ⟨t, ht, hr⟩ := ihj (by omega)
            obtain ⟨k, v, Al, nl, cl, Ar, nr, cr, tl, tr, g1, hks, hml, hmr⟩ := hnode (len - (j + 1)) (by omega)
            obtain ⟨_, _, hat⟩ := World.cells?_some g1
            have c := fun r hr => hat r hr
            have e : ∀ r, ((⟨b, off, none⟩ : Addr).add ((len - (j + 1)) * 4)).add r = ⟨b, off + (len - (j + 1)) * 4 + r, none⟩ := fun r => by
              rw [add_none, add_none]
            simp only [e] at c
            refine ⟨.cons k v tl tr t, by simp [MT.len, ht], hks, c 0 (by omega), c 1 (by omega), ⟨Al, nl, cl, c 2 (by omega), hml⟩, ⟨Ar, nr, cr, c 3 (by omega), hmr⟩, ?_⟩
            have e2 : off + (len - (j + 1)) * 4 + 4 = off + (len - j) * 4 := by omega
            rw [e2]; exact hr
        obtain ⟨t, ht, hr⟩ := hrow len (Nat.le_refl _)
        rw [Nat.sub_self, Nat.zero_mul, Nat.add_zero] at hr
        have hlt : b < w.heap.size := by
          obtain ⟨k, v, Al, nl, cl, Ar, nr, cr, tl, tr, g1, -⟩ := hnode 0 (by omega)
          obtain ⟨_, _, hat⟩ := World.cells?_some g1
          have := hat 0 (by omega)
          exact cell_lt (p := ⟨b, off + 0 * 4 + 0, none⟩) (v := .string k) (by simpa [Addr.add] using this)
        exact ⟨_, len, cap, t, rfl, by omega, ht, .inr ⟨b, off, rfl, hlt, hr⟩⟩
theorem open_map_arg {b0 : Nat} {r : Go.Reach} {v : Value} {d : DataW H} {p : List MemPlace} (hv : Value.okWide Try.prog w r b0 23 v) (h : DataW.Trod enc Try.prog w base spare held 23 v d p) (hl : Light Try.prog 23 d) :
    ∃ (A : Option Addr) (n c : Nat) (t : MT), v = .slice A n c ∧ MapAt w t A n := by
  obtain ⟨A, n, c, rfl⟩ := okWide_slice Try.underlying23 hv
  obtain ⟨m, hm⟩ := h
  exact open_map_any m _ (d, p) hm hl
end
end Go.Proofs.Ytbjniaihkllmdaa

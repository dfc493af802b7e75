/- What the iterator over the common runs yields. -/
import Derived.Test.YtkkjhkmfoeblaaaHiGrp
import Derived.Test.YtkkjhkmfoeblaaaHiBest
import Derived.Test.YtkkjhkmfoeblaaaMyDist
namespace Go.Proofs.Ytkkjhkmfoeblaaa
open Go.RowKit Go.WideMaps Go.Maps Go.WideElems Go.MapKept

/-- The places of a line among the first k. -/
def plc (b : Lns) (k : Nat) (s : ByteArray) : List Nat := (List.range k).filter (fun j => decide (b[j]? = some s))
theorem plc_zero (b : Lns) (s : ByteArray) : plc b 0 s = [] := rfl
theorem plc_succ {b : Lns} {k : Nat} {t : ByteArray} (h : b[k]? = some t) (s : ByteArray) : plc b (k + 1) s = if s = t then plc b k s ++ [k] else plc b k s := by
  unfold plc
  rw [List.range_succ, List.filter_append]
  by_cases hs : s = t
  · subst hs; simp [h]
  · have : ¬ t = s := fun e => hs e.symm
    simp [h, hs, this]
theorem plc_mem {b : Lns} {n k : Nat} {s : ByteArray} (h : k ∈ plc b n s) : k < n ∧ b[k]? = some s := by
  unfold plc at h
  simpa using h
theorem plc_len (b : Lns) (n : Nat) (s : ByteArray) : (plc b n s).length ≤ n := by
  have := List.length_filter_le (fun j => decide (b[j]? = some s)) (List.range n)
  simpa [plc] using this
def toI (l : List Nat) : List Int := l.map fun k : Nat => (k : Int)
theorem toI_snoc (l : List Nat) (k : Nat) : toI (l ++ [k]) = toI l ++ [(k : Int)] := by simp [toI]

/-- The runs that begin at line i and one of some places. -/
def yrow (a b : Lns) (i : Nat) (ks : List Nat) : List Mt := (ks.filter (fun k => decide (runN a b i k ≠ 0))).map (fun k : Nat => ⟨(i : Int), (k : Int), runN a b i k⟩)
theorem yrow_snoc (a b : Lns) (i : Nat) (ks : List Nat) (k : Nat) : yrow a b i (ks ++ [k]) = if runN a b i k = 0 then yrow a b i ks else yrow a b i ks ++ [⟨(i : Int), (k : Int), runN a b i k⟩] := by
  unfold yrow
  rw [List.filter_append, List.map_append]
  by_cases h : runN a b i k = 0 <;> simp [h]
theorem yrow_pre {a b : Lns} {i : Nat} {ks ls : List Nat} (h : ks <+: ls) : yrow a b i ks <+: yrow a b i ls := by
  obtain ⟨t, rfl⟩ := h
  exact ⟨yrow a b i t, by simp [yrow]⟩
def yall (a b : Lns) (n : Nat) : List Mt := (List.range n).flatMap fun i => yrow a b i (plc b b.length (a[i]?.getD ByteArray.empty))
theorem yall_succ {a b : Lns} {i : Nat} {s : ByteArray} (h : a[i]? = some s) : yall a b (i + 1) = yall a b i ++ yrow a b i (plc b b.length s) := by
  simp [yall, List.range_succ, h]
theorem yall_pre (a b : Lns) {m n : Nat} (h : m ≤ n) : yall a b m <+: yall a b n := by
  obtain ⟨d, rfl⟩ : ∃ d, n = m + d := ⟨n - m, by omega⟩
  refine ⟨((List.range d).map (fun x => m + x)).flatMap fun i => yrow a b i (plc b b.length (a[i]?.getD ByteArray.empty)), ?_⟩
  unfold yall
  rw [← List.flatMap_append, ← List.range_add]
theorem yall_at {a b : Lns} {i j : Nat} {s : ByteArray} {k : Nat} (h : a[i]? = some s) (hk : (plc b b.length s)[j]? = some k) (h0 : runN a b i k ≠ 0) :
    (yall a b i ++ yrow a b i ((plc b b.length s).take j)) ++ [⟨(i : Int), (k : Int), runN a b i k⟩] <+: yall a b a.length := by
  have h1 : yrow a b i ((plc b b.length s).take (j + 1)) = yrow a b i ((plc b b.length s).take j) ++ [⟨(i : Int), (k : Int), runN a b i k⟩] := by
    rw [take_succ_of hk, yrow_snoc, if_neg h0]
  rw [List.append_assoc, ← h1]
  have hi : i < a.length := (List.getElem?_eq_some_iff.1 h).1
  refine List.IsPrefix.trans ?_ (yall_pre a b (m := i + 1) (by omega))
  rw [yall_succ h]
  exact (List.prefix_append_right_inj _).2 (yrow_pre (List.take_prefix _ _))

/-- The fold over what is yielded is the best run. -/
def mstep (a : Lns) (s : Mt × Nat) (m : Mt) : Mt × Nat :=
  if rarV a m.a.toNat m.n.toNat < s.2 ∨ (rarV a m.a.toNat m.n.toNat = s.2 ∧ s.1.n < m.n ∧ rarV a m.a.toNat m.n.toNat ≤ 64) then (m, rarV a m.a.toNat m.n.toNat) else s
theorem mstep_run {a b : Lns} {s : Mt × Nat} {i k : Nat} (h : runN a b i k ≠ 0) : mstep a s ⟨(i : Int), (k : Int), runN a b i k⟩ = bstep a b s i k := by
  unfold mstep bstep
  rw [if_neg h]
  simp
theorem fold_yrow (a b : Lns) (i : Nat) : ∀ (ks : List Nat) (s : Mt × Nat), (yrow a b i ks).foldl (mstep a) s = ks.foldl (fun s k => bstep a b s i k) s
  | [], s => rfl
  | k :: ks, s => by
    by_cases h : runN a b i k = 0
    · have e1 : yrow a b i (k :: ks) = yrow a b i ks := by simp [yrow, h]
      rw [e1, fold_yrow a b i ks s, List.foldl_cons, bstep_zero h]
    · have e1 : yrow a b i (k :: ks) = ⟨(i : Int), (k : Int), runN a b i k⟩ :: yrow a b i ks := by simp [yrow, h]
      rw [e1, List.foldl_cons, List.foldl_cons, mstep_run h, fold_yrow a b i ks _]
theorem runN_zero {a b : Lns} {i k : Nat} (h : mtB a b i k = false) : runN a b i k = 0 := by
  unfold runN
  split
  · rfl
  · rw [folV_stop (by rw [show (i : Int) - ((i : Int) - k) = k by omega]; exact h)]; omega
theorem fold_plc {a b : Lns} {i : Nat} {s : ByteArray} (h : a[i]? = some s) : ∀ (n : Nat) (x : Mt × Nat), n ≤ b.length → (plc b n s).foldl (fun x k => bstep a b x i k) x = browP a b x i n
  | 0, x, _ => rfl
  | n + 1, x, hn => by
    obtain ⟨t, ht⟩ : ∃ t, b[n]? = some t := ⟨b[n], List.getElem?_eq_getElem (by omega)⟩
    rw [plc_succ ht, browP_succ, ← fold_plc h n x (by omega)]
    by_cases hs : s = t
    · rw [if_pos hs, List.foldl_append]; rfl
    · rw [if_neg hs, bstep_zero (runN_zero (by rw [mtB_at h ht]; simpa using hs))]
theorem fold_yall (a b : Lns) : ∀ n, n ≤ a.length → (yall a b n).foldl (mstep a) (⟨0, 0, 0⟩, 65) = bestP a b n
  | 0, _ => rfl
  | n + 1, hn => by
    obtain ⟨t, ht⟩ : ∃ t, a[n]? = some t := ⟨a[n], List.getElem?_eq_getElem (by omega)⟩
    rw [yall_succ ht, List.foldl_append, fold_yall a b n (by omega), fold_yrow, fold_plc ht _ _ (Nat.le_refl _), bestP_succ]

/-- What the iterator knows: the two lists and their boxes. -/
structure Kr (A B : Option Addr) (c d : Nat) (a b : Lns) (ga gb : Nat) (W : World) : Prop where
  sa : Strs W A a.length a
  sb : Strs W B b.length b
  ba : Blk W ga (.cells #[.slice A a.length c] 22 (0, 0))
  bb : Blk W gb (.cells #[.slice B b.length d] 22 (0, 0))
def EncM (m : Mt) (vs : Array Value) (_ : Nat → Prop) (_ : World) : Prop := vs = #[m.val]

/-- A slice of numbers in a block that the body leaves alone. -/
def PlAt (S : Nat → Prop) (W : World) (A : Option Addr) (n : Nat) (zs : List Int) : Prop :=
  zs.length = n ∧ ((A = none ∧ n = 0) ∨ ∃ g c, A = some ⟨g, 0, none⟩ ∧ ¬ S g ∧ TabAt W g (.slice (some ⟨g, 0, none⟩) n c) zs)
theorem PlAt.ints {S : Nat → Prop} {W : World} {A : Option Addr} {n : Nat} {zs : List Int} (h : PlAt S W A n zs) : Ints W A n zs := by
  obtain ⟨h1, ⟨rfl, rfl⟩ | ⟨g, c, rfl, _, h2⟩⟩ := h
  · obtain rfl := List.eq_nil_of_length_eq_zero h1
    exact ⟨rfl, Cells.nil W _⟩
  · have := h2.ints; rw [h1] at this; exact this
theorem PlAt.lv {S S2 : Nat → Prop} {W W' : World} {A : Option Addr} {n : Nat} {zs : List Int} (h : PlAt S W A n zs) (k : Lv S W W') (hs : ∀ g, S2 g → S g ∨ W.heap.size ≤ g) : PlAt S2 W' A n zs := by
  refine ⟨h.1, h.2.imp id ?_⟩
  rintro ⟨g, c, h1, h2, h3⟩
  exact ⟨g, c, h1, fun h => (hs g h).elim h2 (fun h' => by have := h3.lt; omega), h3.lv k h2⟩
theorem PlAt.of {S : Nat → Prop} {W : World} {base : Nat} {v : Value} {zs : List Int} (h : W.ownsInts base 3 .i64 v zs) (hn : ∀ g, v.ownBlock = some g → ¬ S g) : ∃ A c, v = .slice A zs.length c ∧ PlAt S W A zs.length zs := by
  by_cases h0 : zs = []
  · subst h0
    rcases h.1.2 with ⟨rfl, _⟩ | ⟨g, cap, cur, rfl, _, hg, _⟩
    · exact ⟨_, _, rfl, rfl, .inl ⟨rfl, rfl⟩⟩
    · exact ⟨_, _, rfl, rfl, .inr ⟨g, cap, rfl, hn g rfl, cap, cur, rfl, hg, by simp⟩⟩
  · obtain ⟨g, hb, ht⟩ := TabAt.of_own h.1 h0
    obtain ⟨c, cs, rfl, h2, h3⟩ := ht
    exact ⟨_, _, rfl, rfl, .inr ⟨g, c, rfl, hn g rfl, c, cs, rfl, h2, h3⟩⟩

/-- The iterator's state: what has been yielded, and the map. -/
structure RunS (J : List Mt → (Nat → Prop) → World → Prop) (X : Nat → Prop) (w0 : World) (base g n : Nat) (F : ByteArray → List Int) (xs : List Mt) (S : Nat → Prop) (W : World) : Prop where
  j : J xs S W
  pre : PreT X w0 S W
  lt : ∀ h, S h → h < W.heap.size
  grp : GrpI W base g n F
  ng : ¬ S g
  sh : W.Shuns g S
section
variable {J : List Mt → (Nat → Prop) → World → Prop} {X : Nat → Prop} {w0 : World} {base g n : Nat} {F : ByteArray → List Int} {xs : List Mt} {S : Nat → Prop} {W : World}
theorem GrpI.lt (h : GrpI W base g n F) : g < W.heap.size := by
  obtain ⟨D, ⟨es, clock, hb, _⟩, _⟩ := h
  exact (Array.getElem?_eq_some_iff.1 hb).1
theorem GrpI.shuns (h : GrpI W base g n F) (hS : ∀ h, S h → h < base) : W.Shuns g S := by
  obtain ⟨D, h1, _⟩ := h
  intro es clock hb x hx j hj hs
  have := h1.rowsAbove (row := some j) (fun k hk => by cases hk; exact hS j hs) es clock hb x hx
  rcases this with h | h
  · rw [h] at hj; cases hj
  · exact h hj
theorem RunS.step {S2 : Nat → Prop} {W2 : World} {ys : List Mt} (h : RunS J X w0 base g n F xs S W) (k : Lv S W W2) (hs : ∀ g, S2 g → S g ∨ W.heap.size ≤ g) (hz : ∀ g, S2 g → g < W2.heap.size) (hj : J ys S2 W2) : RunS J X w0 base g n F ys S2 W2 := by
  obtain ⟨hg, hb⟩ := h.grp.lv k h.ng h.sh
  have hgl := h.grp.lt
  refine ⟨hj, ⟨h.pre.1.trans k (fun j hj hh => h.pre.2 j hj hh), fun j hj hh => ?_⟩, hz, hg, fun hh => ?_, ?_⟩
  · rcases hs j hh with h' | h'
    · exact h.pre.2 j hj h'
    · have := h.pre.1.size; omega
  · rcases hs g hh with h' | h'
    · exact h.ng h'
    · omega
  · obtain ⟨D, h1, _⟩ := h.grp
    have := h.sh.reno h1 hs
    intro es clock hb'
    exact this es clock (hb ▸ hb')
theorem RunS.ext {W2 : World} (h : RunS J X w0 base g n F xs S W) (hJ : Abides (fun _ => False) J) (e : Ext W W2) : RunS J X w0 base g n F xs S W2 :=
  h.step (Lv.of_ext e) (fun _ h => .inl h) (fun j hj => Nat.lt_of_lt_of_le (h.lt j hj) e.size) (hJ _ _ _ _ h.j (Lv.of_ext e))
end

theorem underSII : Try.prog.underlying 65 = some (.map 9 51) := by kernel_rfl
theorem underII : Try.prog.underlying 51 = some (.slice 3) := by kernel_rfl
theorem zeroII (w : World) : (zeroValue 51).run Try.prog w = .ok (.slice none 0 0) w := by kernel_rfl
end Go.Proofs.Ytkkjhkmfoeblaaa

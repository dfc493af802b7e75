/- A row of bytes of the call's own, which a conversion may have marked behind its end: appends. No condition. -/
import Derived.Test.YtmmcjcaccicheaaTfStr
import Derived.Test.YtmmcjcaccicheaaAppend
namespace Go.Proofs.Ytmmcjcaccicheaa
open Go.RowKit

theorem grownBy_trans {A B C : World} {r : Option Nat} (h : A.grownBy B r) (k : B.grownBy C r) : A.grownBy C r :=
  ⟨k.os.trans h.os, k.tape.trans h.tape, k.output.trans h.output, Nat.le_trans h.size k.size, fun g hg hn => (k.block g (Nat.lt_of_lt_of_le hg h.size) hn).trans (h.block g hg hn)⟩
/-- Cells stored one behind the other, from cell n + i on, of which none is frozen. -/
theorem run_storeCells_mark {P : Program} (g n : Nat) (t : TypeId) (f : Nat × Nat) : ∀ (vs : List Value) (i : Nat) (cur : Array Value) (W : World), W.heap[g]? = some (.cells cur t f) → (∀ k, n + i ≤ k → k < n + i + vs.length → ¬ (f.1 ≤ k ∧ k < f.2)) → n + i + vs.length ≤ cur.size → (∀ v ∈ vs, v.oneCell' = true) →
    ∃ (W' : World) (cur' : Array Value), (storeCells ⟨g, n, none⟩ vs i).run P W = .ok () W' ∧ W'.heap[g]? = some (.cells cur' t f) ∧ cur'.size = cur.size ∧ (∀ k, k < n + i → cur'[k]? = cur[k]?) ∧ (∀ j u, vs[j]? = some u → cur'[n + i + j]? = some u) ∧ (∀ k, n + i + vs.length ≤ k → cur'[k]? = cur[k]?) ∧ W.grownBy W' (some g)
  | [], i, cur, W, hg, _, _, _ => ⟨W, cur, rfl, hg, rfl, fun _ _ => rfl, fun j u h => by simp at h, fun _ _ => rfl, ⟨rfl, rfl, rfl, Nat.le_refl _, fun _ _ _ => rfl⟩⟩
  | v :: rest, i, cur, W, hg, hf, hl, h1 => by
    have hi : n + i < cur.size := by simp at hl; omega
    have hadd : (⟨g, n, none⟩ : Addr).add i = ⟨g, n + i, none⟩ := by unfold Addr.add; split <;> simp_all
    have hcell : W.cell? ⟨g, n + i, none⟩ = some cur[n + i] := by simp [World.cell?, hg, hi]
    have hfro : W.frozen? ⟨g, n + i, none⟩ = false := by
      have := hf (n + i) (Nat.le_refl _) (by simp)
      simp only [World.frozen?, hg]
      rw [Bool.and_eq_false_iff, decide_eq_false_iff_not, decide_eq_false_iff_not]
      omega
    have hst : (store ((⟨g, n, none⟩ : Addr).add i) v).run P W = .ok () (W.setCell ⟨g, n + i, none⟩ v) := by
      rw [hadd, run_store P W _ v _ (h1 v (by simp)), hcell]
      simp [hfro]
    have hrow := setCell_eq_setRow W g (n + i) cur t f v hg
    have hg2 : (W.setCell ⟨g, n + i, none⟩ v).heap[g]? = some (.cells (cur.setIfInBounds (n + i) v) t f) := by
      rw [hrow, setRow_heap W g _ _ t _ hg]
    obtain ⟨W', cur', hr, hb, hs, hlo, hhi, hup, hgr⟩ := run_storeCells_mark (P := P) g n t f rest (i + 1) (cur.setIfInBounds (n + i) v) (W.setCell ⟨g, n + i, none⟩ v) hg2 (fun k h2 h3 => hf k (by omega) (by simp; omega)) (by simp at hl ⊢; omega) (fun x hx => h1 x (by simp [hx]))
    refine ⟨W', cur', ?_, hb, by rw [hs]; simp, fun k hk => ?_, fun j u hj => ?_, fun k hk => ?_, grownBy_trans ?_ hgr⟩
    · simp only [storeCells, Sem.run_bind, hst, Result.andThen_ok, hr]
    · rw [hlo k (by omega), Array.getElem?_setIfInBounds, if_neg (by omega)]
    · match j with
      | 0 =>
        simp at hj; subst hj
        rw [hlo (n + i + 0) (by omega), Nat.add_zero, Array.getElem?_setIfInBounds, if_pos rfl, if_pos hi]
      | j + 1 =>
        have := hhi j u (by simpa using hj)
        rw [show n + i + (j + 1) = n + (i + 1) + j by omega]; exact this
    · rw [List.length_cons] at hk
      rw [hup k (by omega), Array.getElem?_setIfInBounds, if_neg (by omega)]
    · rw [hrow]
      exact ⟨rfl, rfl, rfl, by simp, fun k hk hne => setRow_ne W (fun e => hne (by rw [e])) _⟩

/-- v is a slice of the bytes l in a row that was made after w0; nothing that was there at w0 has turned. -/
structure BRow (w0 W : World) (v : Value) (l : Bs) : Prop where
  ext : Ext w0 W
  row : ∃ (g cap : Nat) (cs : Array Value) (f : Nat × Nat), v = .slice (some ⟨g, 0, none⟩) l.length cap ∧ w0.heap.size ≤ g ∧ l.length ≤ cap ∧ cap ≤ maxLen ∧ W.heap[g]? = some (.cells cs 5 f) ∧ cs.size = cap ∧ (∀ (j : Nat) (x : UInt8), l[j]? = some x → cs[j]? = some (bv x)) ∧ (f = (0, 0) ∨ cap ≤ f.1)
theorem BRow.more {w0 W W' : World} {v : Value} {l : Bs} (h : BRow w0 W v l) (e : Ext W W') : BRow w0 W' v l := by
  obtain ⟨h1, g, cap, cs, f, a, b, c, d, hb, r⟩ := h
  exact ⟨h1.trans e, g, cap, cs, f, a, b, c, d, e.block hb, r⟩
theorem BRow.cells {w0 W : World} {v : Value} {l : Bs} (h : BRow w0 W v l) : ∃ g cap, v = .slice (some ⟨g, 0, none⟩) l.length cap ∧ w0.heap.size ≤ g ∧ g < W.heap.size ∧ l.length ≤ cap ∧ cap ≤ maxLen ∧ (∀ j x, l[j]? = some x → W.cell? ⟨g, j, none⟩ = some (bv x)) := by
  obtain ⟨h1, g, cap, cs, f, a, b, c, d, hb, hs, hc, -⟩ := h
  refine ⟨g, cap, a, b, (Array.getElem?_eq_some_iff.1 hb).1, c, d, fun j x hj => ?_⟩
  simp only [World.cell?, hb]
  exact hc j x hj
theorem BRow.block {w0 W : World} {l : Bs} {g n cap : Nat} (h : BRow w0 W (.slice (some ⟨g, 0, none⟩) n cap) l) : ∃ cs f, Blk W g (.cells cs 5 f) ∧ ∀ (j : Nat) (x : UInt8), l[j]? = some x → cs[j]? = some (bv x) := by
  obtain ⟨-, g', cap', cs, f, e, -, -, -, hb, -, hc, -⟩ := h
  cases e
  exact ⟨cs, f, hb, hc⟩
theorem Blk.cellm {W : World} {g : Nat} {t : TypeId} {cs : Array Value} {f : Nat × Nat} (h : Blk W g (.cells cs t f)) (i : Nat) : W.cell? ⟨g, i, none⟩ = cs[i]? := by
  unfold Blk at h; simp [World.cell?, h]
theorem BRow.set {w0 W : World} {l : Bs} {g n cap : Nat} (h : BRow w0 W (.slice (some ⟨g, 0, none⟩) n cap) l) {i : Nat} (hi : i < l.length) (y : UInt8) :
    BRow w0 (W.setCell ⟨g, i, none⟩ (bv y)) (.slice (some ⟨g, 0, none⟩) n cap) (l.set i y) ∧ (∃ x, W.cell? ⟨g, i, none⟩ = some (bv x) ∧ l[i]? = some x) ∧ W.frozen? ⟨g, i, none⟩ = false := by
  obtain ⟨h1, g', cap', cs, f, e, h2, h3, h4, hb, hs, hc, hf⟩ := h
  cases e
  refine ⟨⟨h1.setCell (p := ⟨g, i, none⟩) h2 _, g, cap, cs.setIfInBounds i (bv y), f, by rw [List.length_set], h2, by rw [List.length_set]; exact h3, h4, ?_, by simp [hs], fun j x hj => ?_, hf⟩, ⟨l[i], ?_, List.getElem?_eq_getElem hi⟩, ?_⟩
  · rw [setCell_eq_setRow W g i cs _ f _ hb, setRow_heap W g _ _ _ _ hb]
  · rw [List.getElem?_set] at hj
    split at hj
    · next e =>
      subst e
      cases hj
      rw [Array.getElem?_setIfInBounds, if_pos rfl, if_pos (by omega)]
    · next e =>
      rw [Array.getElem?_setIfInBounds, if_neg e]
      exact hc j x hj
  · rw [Blk.cellm hb]; exact hc i _ (List.getElem?_eq_getElem hi)
  · simp only [World.frozen?, hb]
    rw [Bool.and_eq_false_iff, decide_eq_false_iff_not, decide_eq_false_iff_not]
    rcases hf with rfl | hf
    · right; omega
    · left; omega
theorem brow_conv (s : ByteArray) (l : Bs) (hl : s.data.toList = l) (hm : l.length ≤ maxLen) (w0 w : World) (h0 : Ext w0 w) : ∃ (v : Value) (W1 : World), (convert 9 71 (.string s)).run Try.prog w = .ok v W1 ∧ BRow w0 W1 v l := by
  have hsz : s.size = l.length := by subst hl; rfl
  have hge := grownCap_ge w s.size 0 5
  have hle := grownCap_le_maxLen w s.size 0 5 (by rw [hsz]; exact hm)
  have hbs : (bytesRow s (grownCap w s.size 0 5)).size = grownCap w s.size 0 5 := by
    unfold bytesRow; simp only [Array.size_append, Array.size_map, Array.size_replicate]
    show s.size + (grownCap w s.size 0 5 - s.size) = _
    omega
  refine ⟨_, _, run_bytes_of_string w 9 71 5 s Try.underlying9 Try.underlying71 Try.underlying5, h0.drew.alloc _, w.heap.size, grownCap w s.size 0 5, _, _, by rw [hsz], h0.size, by rw [← hsz]; exact hge, hle, heap_alloc_last w.drew _, hbs, fun j x hj => ?_, .inr (by rw [hbs]; exact Nat.le_refl _)⟩
  have hj2 : j < s.data.size := by
    have := (List.getElem?_eq_some_iff.1 hj).1; rw [← hsz] at this; exact this
  rw [bytesRow_at _ _ _ hj2]
  congr 2
  have : s.data.toList[j]? = some x := by rw [hl]; exact hj
  rw [Array.getElem?_toList, Array.getElem?_eq_getElem hj2] at this
  rw [Option.some.inj this]; rfl
theorem brow_new {w0 w : World} (h0 : Ext w0 w) (l : Bs) (hm : l.length ≤ maxLen) : BRow w0 (w.alloc (.cells (dgl l).toArray 5)) (.slice (some ⟨w.heap.size, 0, none⟩) l.length l.length) l :=
  ⟨h0.alloc _, w.heap.size, l.length, (dgl l).toArray, (0, 0), rfl, h0.size, Nat.le_refl _, hm, heap_alloc_last w _, by simp [dgl_len], fun j x hj => by simpa using dgl_get hj, .inl rfl⟩
/-- What is appended: a value whose first cells are the bytes y. -/
def SrcB (W : World) (x : Value) (y : Bs) : Prop := ∀ W', W' = W ∨ W' = W.drew → (Builtin.lenOf x).run Try.prog W' = .ok y.length W' ∧ (Builtin.firstCells 1 y.length x).run Try.prog W' = .ok (dgl y).toArray W'
theorem src_slice {W : World} {g o c : Nat} {y : Bs} {n : Nat} (hn : y.length = n) (h : ∀ (j : Nat) (x : UInt8), y[j]? = some x → W.cell? ⟨g, o + j, none⟩ = some (bv x)) : SrcB W (.slice (some ⟨g, o, none⟩) n c) y := by
  subst hn
  intro W' hW'
  have h' : ∀ (j : Nat) (x : UInt8), y[j]? = some x → W'.cell? ⟨g, o + j, none⟩ = some (bv x) := by
    rcases hW' with rfl | rfl
    · exact h
    · exact h
  refine ⟨by simp [Builtin.lenOf], ?_⟩
  refine run_firstCells_some (P := Try.prog) W' 1 y.length ⟨g, o, none⟩ y.length c (dgl y) (by rw [dgl_len]; omega) (fun j u hj => ?_)
  unfold dgl at hj
  rw [List.getElem?_map] at hj
  cases hy : y[j]? with
  | none => rw [hy] at hj; cases hj
  | some x =>
    rw [hy] at hj; cases hj
    have hadd : (⟨g, o, none⟩ : Addr).add j = ⟨g, o + j, none⟩ := by unfold Addr.add; split <;> simp_all
    rw [hadd]; exact h' j x hy
theorem src_string (W : World) (y : Bs) : SrcB W (.string (bst y)) y := by
  intro W' _
  refine ⟨by simp [Builtin.lenOf], ?_⟩
  have h1 : (bst y).data.map (fun b => Value.int .u8 (b.toNat : Int)) = (dgl y).toArray := by
    apply Array.ext'
    rw [Array.toList_map, bst_list]; rfl
  simp [Builtin.firstCells, h1]
theorem info_byte : (Try.prog.info? 5).map (fun i => (i.zero, i.size, i.bytes)) = some (some (.int .u8 0), 1, 1) := by kernel_rfl
theorem grown_ext {W W' : World} (e : Ext W W') {r : Option Nat} : W.grownBy W' r := ⟨e.os, e.tape, e.output, e.size, fun k hk _ => Below.block e k hk⟩
set_option maxRecDepth 10000 in
theorem run_append_bytes2 {w0 W : World} {v : Value} {l y : Bs} {x : Value} {ty xt : TypeId} (h : BRow w0 W v l) (hx : SrcB W x y) (hxt : ∃ d, Try.prog.underlying xt = some d ∧ ∀ k, d ≠ .int k) (hl : l.length + y.length < 1073741824) :
    ∃ (v' : Value) (W' : World), (Builtin.append_ #[71, xt] ty #[v, x]).run Try.prog W = .ok v' W' ∧ BRow w0 W' v' (l ++ y) ∧ W.grownBy W' v.ownBlock := by
  obtain ⟨h1, g, cap, cs, f, rfl, hb0, hlc, hcm, hb, hs, hc, hf⟩ := h
  obtain ⟨hx1, hx2⟩ := hx W (.inl rfl)
  obtain ⟨hx3, hx4⟩ := hx W.drew (.inr rfl)
  obtain ⟨d, hd, hdk⟩ := hxt
  obtain ⟨i, hi, hz, hsz, hby⟩ := info_of info_byte
  have ht := Try.underlying71
  have hd' : (match d with | .int _ => true | _ => false) = false := by
    cases d <;> first | rfl | (rename_i k; exact absurd rfl (hdk k))
  by_cases hroom : l.length + y.length ≤ cap
  · obtain ⟨W', cur', hr, hb', hs', hlo, hhi, -, hgr⟩ := run_storeCells_mark (P := Try.prog) g l.length 5 f (dgl y) 0 cs W hb (fun k h2 h3 => by
      rw [dgl_len] at h3
      rcases hf with rfl | hf
      · simp
      · omega) (by rw [dgl_len]; omega) (dgl_one y)
    refine ⟨.slice (some ⟨g, 0, none⟩) (l.length + y.length) cap, W', ?_, ⟨h1.grown hgr (fun k hk => by cases hk; exact hb0), g, cap, cur', f, by rw [List.length_append], hb0, by rw [List.length_append]; exact hroom, hcm, hb', by rw [hs', hs], fun j z hj => ?_, hf⟩, hgr⟩
    · simp [Builtin.append_, run_underlying ht, run_underlying hd, sizeOf, typeInfo, hi, hsz, hx1, hx2, hroom, Addr.add_lit, hr, hd']
    · rcases Nat.lt_or_ge j l.length with hjl | hjl
      · rw [hlo j (by omega)]
        rw [List.getElem?_append_left hjl] at hj
        exact hc j z hj
      · rw [List.getElem?_append_right hjl] at hj
        have := hhi (j - l.length) (bv z) (dgl_get hj)
        rwa [show l.length + 0 + (j - l.length) = j by omega] at this
  · have hn : ¬ (l.length + y.length ≤ cap) := hroom
    have h63' : ¬ (9223372036854775807 < ((l.length : Int) + (y.length : Int))) := by omega
    have h48 := growslice_fits (need := l.length + y.length) (old := cap) (bytes := 1) (by omega) (by omega)
    have h48' : ¬ (281474976710656 < Builtin.nextslicecap (l.length + y.length) cap) := by omega
    have hfo := run_firstCells_some (P := Try.prog) W.drew 1 l.length ⟨g, 0, none⟩ l.length cap (dgl l) (by rw [dgl_len]; omega) (fun j u hj => by
      unfold dgl at hj
      rw [List.getElem?_map] at hj
      cases hy : l[j]? with
      | none => rw [hy] at hj; cases hj
      | some x =>
        rw [hy] at hj; cases hj
        have hadd : (⟨g, 0, none⟩ : Addr).add j = ⟨g, j, none⟩ := by unfold Addr.add; split <;> simp_all
        rw [hadd]
        show W.cell? _ = _
        simp only [World.cell?, hb]
        exact hc j x hy)
    have hge := grownCap_ge W (l.length + y.length) cap 5
    have hle := grownCap_le_maxLen W (l.length + y.length) cap 5 (by unfold maxLen; omega)
    refine ⟨.slice (some ⟨W.heap.size, 0, none⟩) (l.length + y.length) (grownCap W (l.length + y.length) cap 5), W.drew.alloc (.cells ((dgl l).toArray ++ (dgl y).toArray ++ Builtin.zeroCells #[.int .u8 0] (grownCap W (l.length + y.length) cap 5 - (l.length + y.length))) 5), ?_,
      ⟨h1.drew.alloc _, W.heap.size, _, _, (0, 0), by rw [List.length_append], h1.size, by rw [List.length_append]; exact hge, hle, heap_alloc_last W.drew _, ?_, fun j z hj => ?_, .inl rfl⟩, grown_ext ((Ext.refl W).drew.alloc _)⟩
    · simp [Builtin.append_, run_underlying ht, run_underlying hd, sizeOf, typeInfo, zeroValue, hi, hz, hsz, hby, hx1, hn, h63', h48', Question.forced, hx4, hfo, newRow, grownCap, hd', Value.cells]
      congr 2
      apply Array.ext'
      simp [List.append_assoc]
    · simp only [Array.size_append, List.size_toArray, dgl_len, size_zeroCells]
      show l.length + y.length + (grownCap W (l.length + y.length) cap 5 - (l.length + y.length)) * 1 = _
      omega
    · rw [Array.getElem?_append_left (by simp only [Array.size_append, List.size_toArray, dgl_len]; have := (List.getElem?_eq_some_iff.1 hj).1; rw [List.length_append] at this; exact this)]
      have he : (dgl l).toArray ++ (dgl y).toArray = (dgl (l ++ y)).toArray := by unfold dgl; simp
      rw [he, List.getElem?_toArray]
      exact dgl_get hj
theorem run_append_bytes {w0 W : World} {v : Value} {l y : Bs} {x : Value} {ty xt : TypeId} (h : BRow w0 W v l) (hx : SrcB W x y) (hxt : ∃ d, Try.prog.underlying xt = some d ∧ ∀ k, d ≠ .int k) (hl : l.length + y.length < 1073741824) :
    ∃ (v' : Value) (W' : World), (Builtin.append_ #[71, xt] ty #[v, x]).run Try.prog W = .ok v' W' ∧ BRow w0 W' v' (l ++ y) := by
  obtain ⟨v', W', h1, h2, -⟩ := run_append_bytes2 (ty := ty) h hx hxt hl
  exact ⟨v', W', h1, h2⟩
/-- The same, with what has turned. -/
theorem wpList_append_bytes2 {w0 W : World} {ops : Array Oper} {rest : List Oper} {o : Oper} {a : Act} {Q : Exit → Act → World → Prop} (hg : o.guard = none)
    (s x : Operand) (xt : TypeId) (hop : o.op = .call { callee := .builtin .append, args := #[s, x], argTypes := #[71, xt] }) (v xv : Value) (hs : a.eval s = v) (hx : a.eval x = xv) (l y : Bs)
    (h : BRow w0 W v l) (hsrc : SrcB W xv y) (hxt : ∃ d, Try.prog.underlying xt = some d ∧ ∀ k, d ≠ .int k) (hl : l.length + y.length < 1073741824)
    (hk : ∀ v' W', BRow w0 W' v' (l ++ y) → W.grownBy W' v.ownBlock → wpList Try.prog ops Q rest (a.put o.dst v') W') : wpList Try.prog ops Q (o :: rest) a W := by
  refine wpList_plain hg fun K hK => ?_
  obtain ⟨v', W', hrun, hrow, hgr⟩ := run_append_bytes2 (ty := o.type) h hsrc hxt hl
  unfold Oper.wp
  simp [execOp, hop, resolve, invoke, builtin, hs, hx, hrun, Result.andThen]
  exact hK _ _ (hk v' W' hrow hgr)
theorem wpList_append_bytes {w0 W : World} {ops : Array Oper} {rest : List Oper} {o : Oper} {a : Act} {Q : Exit → Act → World → Prop} (hg : o.guard = none)
    (s x : Operand) (xt : TypeId) (hop : o.op = .call { callee := .builtin .append, args := #[s, x], argTypes := #[71, xt] }) (v xv : Value) (hs : a.eval s = v) (hx : a.eval x = xv) (l y : Bs)
    (h : BRow w0 W v l) (hsrc : SrcB W xv y) (hxt : ∃ d, Try.prog.underlying xt = some d ∧ ∀ k, d ≠ .int k) (hl : l.length + y.length < 1073741824)
    (hk : ∀ v' W', BRow w0 W' v' (l ++ y) → wpList Try.prog ops Q rest (a.put o.dst v') W') : wpList Try.prog ops Q (o :: rest) a W := by
  refine wpList_plain hg fun K hK => ?_
  obtain ⟨v', W', hrun, hrow⟩ := run_append_bytes (ty := o.type) h hsrc hxt hl
  unfold Oper.wp
  simp [execOp, hop, resolve, invoke, builtin, hs, hx, hrun, Result.andThen]
  exact hK _ _ (hk v' W' hrow)
theorem src_new (W : World) (v : Int) (x : UInt8) (hv : v = ub x) : SrcB (W.alloc (.cells #[.int .u8 v] 5)) (.slice (some ⟨W.heap.size, 0, none⟩) 1 1) [x] := by
  subst hv
  refine src_slice rfl (fun j y hj => ?_)
  rw [Nat.zero_add]
  refine (Arr.new W #[.int .u8 (ub x)] 5).cell ?_
  match j, hj with
  | 0, hj => simp at hj; rw [← hj]; rfl
  | j + 1, hj => simp at hj
def slen : Value → Nat
  | .slice _ n _ => n
  | _ => 0
theorem BRow.len {w0 W : World} {v : Value} {l : Bs} (h : BRow w0 W v l) : slen v = l.length := by
  obtain ⟨-, g, cap, cs, f, rfl, -⟩ := h; rfl
theorem zdg_len : ZDg.toList.length = 32 := by rw [zdg]; rfl
/-- A new variable that takes a digest. -/
theorem new_dg (W : World) (l : Bs) (h : l.length = 32) : ∃ W', (StT 34 (.pointer (some ⟨W.heap.size, 0, none⟩)) (dv l)).run Try.prog (W.alloc (.cells ZDg 34)) = .ok () W' ∧ Arr W' W.heap.size 34 (dgl l) ∧ Ext W W' ∧ W'.heap.size = W.heap.size + 1 := by
  have h0 := Arr.new W ZDg 34
  exact ⟨_, stDg h0 zdg_len (l' := dgl l) (by rw [dgl_len]; exact h) (dgl_one l), h0.put _, ((Ext.refl W).alloc _).setRow (Nat.le_refl _) _, by rw [setRow_size, World.size_alloc]⟩
/-- A variable that takes a digest. -/
theorem put_dg {W : World} {g : Nat} {l0 : List Value} (h0 : Arr W g 34 l0) (hl : l0.length = 32) (l : Bs) (h : l.length = 32) : ∃ W', (StT 34 (.pointer (some ⟨g, 0, none⟩)) (dv l)).run Try.prog W = .ok () W' ∧ Arr W' g 34 (dgl l) ∧ (∀ w0, Ext w0 W → w0.heap.size ≤ g → Ext w0 W') ∧ (∀ k, k ≠ g → W'.heap[k]? = W.heap[k]?) ∧ W'.heap.size = W.heap.size :=
  ⟨_, stDg h0 hl (l' := dgl l) (by rw [dgl_len]; exact h) (dgl_one l), h0.put _, fun _ e hg => e.setRow hg _, fun _ hk => setRow_ne W hk _, setRow_size _ _ _⟩
/-- A digest's variable as a string. -/
theorem dg_string {W : World} {g : Nat} {l : Bs} (h : Arr W g 34 (dgl l)) (hl : l.length = 32) (c : Nat) : (convert 71 9 (.slice (some ⟨g, 0, none⟩) 32 c)).run Try.prog W = .ok (.string (bst l)) W := by
  rw [← bst_mk]
  exact string_back W g 0 c l hl (fun j x hj => by rw [Nat.zero_add]; exact h.cell (dgl_get hj))
theorem dg_load {W : World} {g : Nat} {l : Bs} (h : Arr W g 34 (dgl l)) (hl : l.length = 32) : (LdT 34 (.pointer (some ⟨g, 0, none⟩))).run Try.prog W = .ok (dv l) W := ldDg h (by rw [dgl_len]; exact hl)
theorem dg_box (l : Bs) (w : World) : (BxT 34 (dv l)).run Try.prog w = .ok (.pointer (some ⟨w.heap.size, 0, none⟩)) (w.alloc (.cells (dgl l).toArray 34)) := bxDg _ w
attribute [simp] dg_box
theorem dg_ret {W : World} {g : Nat} {l : Bs} (h : Arr W g 34 (dgl l)) (hl : l.length = 32) : (loadVar 34 ⟨g, 0, none⟩).run Try.prog W = .ok (dv l) W := lvDg h (by rw [dgl_len]; exact hl)
theorem bytes_slice : ∃ d, Try.prog.underlying 71 = some d ∧ ∀ k, d ≠ .int k := ⟨_, Try.underlying71, fun k h => by cases h⟩
theorem bytes_str : ∃ d, Try.prog.underlying 9 = some d ∧ ∀ k, d ≠ .int k := ⟨_, Try.underlying9, fun k h => by cases h⟩
end Go.Proofs.Ytmmcjcaccicheaa

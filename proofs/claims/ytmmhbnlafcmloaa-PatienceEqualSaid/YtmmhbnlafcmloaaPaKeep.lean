/- Contract: keep of the matcher. -/
import Derived.Test.YtmmhbnlafcmloaaPaPcs
import Derived.Test.YtmmhbnlafcmloaaMyDiff
import Derived.Test.YtmmhbnlafcmloaaHiApp
import Derived.Laws.OwnMore
namespace Go.Proofs.Ytmmhbnlafcmloaa
open Go.RowKit

theorem Blk.own_lt {w w' : World} {g : Nat} {o : Obj} {base : Nat} {e : TypeId} {size n : Nat} {v : Value} {xs : List Value} (hb : Blk w g o) (h : w.ownsRow base e size v n xs) (hlt : g < base) (hg : w.grownBy w' v.ownBlock) : Blk w' g o :=
  (hg.block g hb.lt (fun e => by have := (h.lt g e.symm).1; omega)).trans hb

/-- The matches lie within lists of at most L lines. -/
def Bnd (L : Nat) (ms : List Mt) : Prop := ∀ m ∈ ms, (0 ≤ m.a ∧ m.a + m.n ≤ L) ∧ (0 ≤ m.b ∧ m.b + m.n ≤ L) ∧ 0 ≤ m.n
theorem Bnd.wf {L : Nat} {ms : List Mt} (h : Bnd L ms) (hL : L ≤ 10000) : ∀ m ∈ ms, m.wf := fun m hm => by
  have := h m hm; exact mt_wf_small (by omega) (by omega) (by omega)
theorem Bnd.keep {L : Nat} {ms : List Mt} {m : Mt} (h : Bnd L ms) (hm : Bnd L [m]) : Bnd L (keepV ms m) := by
  have hm0 := hm m (by simp)
  by_cases h0 : m.n < 1
  · rw [keepV_zero h0]; exact h
  rcases snoc_or ms with rfl | ⟨r, x, rfl⟩
  · rw [keepV_nil h0]; exact hm
  · have hx := h x (by simp)
    by_cases h1 : x.a + x.n = m.a ∧ x.b + x.n = m.b
    · rw [keepV_join h0 h1.1 h1.2]
      intro y hy
      rcases List.mem_append.1 hy with hy | hy
      · exact h y (by simp [hy])
      · simp only [List.mem_singleton] at hy; subst hy; dsimp only; omega
    · rw [keepV_new h0 h1]
      intro y hy
      rcases List.mem_append.1 hy with hy | hy
      · exact h y hy
      · exact hm y hy

abbrev matO (A : Option Addr) (n c : Nat) (B : Option Addr) (m d : Nat) (v : Value) : Obj := .cells #[.slice A n c, .slice B m d, v] 54
/-- The matcher in its block, with the matches so far. -/
structure MatS (w : World) (gm base : Nat) (A : Option Addr) (n c : Nat) (B : Option Addr) (m d : Nat) (ms : List Mt) (v : Value) : Prop where
  blk : Blk w gm (matO A n c B m d v)
  own : w.ownsRow base 32 3 v ms.length (ms.flatMap Mt.cells)
  lt : gm < base
  le : base ≤ w.heap.size
/-- The matches have become ms'. -/
def Upd (w : World) (gm base : Nat) (A : Option Addr) (n c : Nat) (B : Option Addr) (m d : Nat) (ms : List Mt) (v : Value) (w' : World) : Prop :=
  ∃ v', MatS w' gm base A n c B m d ms v' ∧ Lv (fun g => g = gm ∨ v.ownBlock = some g) w w' ∧ (∀ g, v'.ownBlock = some g → v.ownBlock = some g ∨ w.heap.size ≤ g)
theorem Upd.trans {w w1 w2 : World} {gm base : Nat} {A : Option Addr} {n c : Nat} {B : Option Addr} {m d : Nat} {ms1 : List Mt} {v v1 : Value} {ms2 : List Mt} (h1 : Lv (fun g => g = gm ∨ v.ownBlock = some g) w w1) (h2 : ∀ g, v1.ownBlock = some g → v.ownBlock = some g ∨ w.heap.size ≤ g)
    (k : Upd w1 gm base A n c B m d ms2 v1 w2) (_ : MatS w1 gm base A n c B m d ms1 v1) : Upd w gm base A n c B m d ms2 v w2 := by
  obtain ⟨v2, k1, k2, k3⟩ := k
  refine ⟨v2, k1, h1.trans k2 (fun g hg h => ?_), fun g hg => ?_⟩
  · rcases h with h | h
    · exact .inl h
    · rcases h2 g h with h' | h'
      · exact .inr h'
      · omega
  · rcases k3 g hg with h | h
    · exact h2 g h
    · have := h1.size; exact .inr (by omega)
theorem flat_set (r : List Mt) (z : Mt) (u : Int) : ((r ++ [z]).flatMap Mt.cells).set (r.length * 3 + 2) (.int .i64 u) = (r ++ [(⟨z.a, z.b, u⟩ : Mt)]).flatMap Mt.cells := by
  rw [List.flatMap_append, List.flatMap_append, List.set_append_right _ _ (by rw [flat_len mt_cells_len]; omega)]
  congr 1
  rw [flat_len mt_cells_len, show r.length * 3 + 2 - r.length * 3 = 2 by omega]
  rfl
theorem infoM' : (Try.prog.info? 32).map (fun i => (i.zero, i.size, i.bytes)) = some (some (.agg #[.int .i64 0, .int .i64 0, .int .i64 0]), 3, 24) := by kernel_rfl
theorem underM' : Try.prog.underlying 25 = some (.slice 32) := by kernel_rfl

set_option maxRecDepth 100000 in
set_option maxHeartbeats 8000000 in
theorem keep_any (gm base : Nat) (A : Option Addr) (n c : Nat) (B : Option Addr) (m d : Nat) (ms : List Mt) (v : Value) (x y l : Int) (L : Nat) (w : World) (hS : MatS w gm base A n c B m d ms v) (hB : Bnd L ms) (hm : Bnd L [⟨x, y, l⟩]) (hL : L ≤ 1000) (hlen : ms.length ≤ 2000) :
    Calls Try.prog 38 #[.pointer (some ⟨gm, 0, none⟩), .int .i64 x, .int .i64 y, .int .i64 l] w fun e w' => (∃ u, e = .returned u) ∧ Upd w gm base A n c B m d (keepV ms ⟨x, y, l⟩) v w' := by
  have hb := hm ⟨x, y, l⟩ (by simp)
  dsimp only at hb
  obtain ⟨⟨b1, b2⟩, ⟨b3, b4⟩, b5⟩ := hb
  have HB := Lib.hid hB; have HS := Lib.hid hS; clear hm hB hS
  by_cases h0 : l = 0
  · subst h0
    go_enter Try.func38, Try.ntmps38
    go_wp2_with fail
    refine bodyPost_ret (results_none rfl _ _ _) rfl ?_
    exact ⟨⟨_, rfl⟩, v, by rw [keepV_zero (by show (0 : Int) < 1; omega)]; exact HS.out, Lv.refl _ _, fun g h => .inl h⟩
  have hl1 : ¬ (⟨x, y, l⟩ : Mt).n < 1 := by show ¬ l < 1; omega
  have HL1 := Lib.hid hl1; clear hl1
  have hz : (l == 0) = false := by simp; omega
  obtain ⟨inf, i1, i2, i3, i4⟩ := info_of infoM'
  have I1 := Lib.hid i1; have I2 := Lib.hid i2; have I3 := Lib.hid i3; have I4 := Lib.hid i4; clear i1 i2 i3 i4
  obtain ⟨c0, c1, c2⟩ := HS.out.blk.cells3
  obtain ⟨f0, f1, f2⟩ := HS.out.blk.free3
  have hgl := HS.out.blk.lt
  rcases snoc_or ms with rfl | ⟨r, ⟨p, q, z⟩, rfl⟩
  · obtain ⟨A1, k1, rfl, -, -⟩ := ownM_mts HS.out.own (by simp)
    go_enter Try.func38, Try.ntmps38
    go_wp2_with fail
    go_quiet (fail)
    have how0 : w.ownsRow base 32 3 (.slice A1 0 k1) 0 [] := HS.out.own
    have HOW0 := Lib.hid how0; clear how0
    go_wp2_with (at_builtin; refine wpList_append_size2 rfl (.tmp 77) (.tmp 82) 25 rfl base 32 inf _ 3 24 underM' I1.out I2.out I3.out I4.out rfl (by decide) _ _ _ (some ⟨(w.drewN nq).heap.size, 0, none⟩) 1 1 (Mt.cells ⟨x, y, l⟩) rfl (by simp [Act.eval]) rfl (by simp [Mt.cells, Value.oneCell']) (by simp only [maxLen]; omega) (by omega) (own_stab3 (((Ext.refl w).drewN nq).alloc _) HOW0.out) (Cells.new (w.drewN nq) _ _ rfl) (by have := HS.out.le; simp; omega) ?_; intro v' w2 hown hg hbk; have hbm := (HS.out.blk.ext (((Ext.refl w).drewN nq).alloc _)).own_lt (own_stab3 (((Ext.refl w).drewN nq).alloc _) HOW0.out) HS.out.lt hg; clear c0 c1 c2 f0 f1 f2; obtain ⟨e0, e1, e2⟩ := hbm.cells3; obtain ⟨y0, y1, y2⟩ := hbm.free3; obtain ⟨gv, cap', rfl⟩ := ownsRow_succ hown; have HBM := Lib.hid hbm; have HOW := Lib.hid hown; have HG := Lib.hid hg; have HBK := Lib.hid hbk; clear hbm hown hg hbk)
    refine bodyPost_end (results_none rfl _ _ _) rfl ?_
    have hlt := HS.out.lt
    have hle := HS.out.le
    have hx : Ext w ((w.drewN nq).alloc (.cells (Mt.cells ⟨x, y, l⟩).toArray 32)) := ((Ext.refl w).drewN nq).alloc _
    have hl2 := ((Lv.of_ext (S := fun g => g = gm ∨ (Value.slice A1 0 k1).ownBlock = some g) hx).grown HG.out (fun k hk _ => .inr hk)).setCell (p := ⟨gm, 2, none⟩) (fun _ => .inl rfl) (.slice (some ⟨gv, 0, none⟩) (0 + 1) cap')
    refine ⟨⟨_, rfl⟩, .slice (some ⟨gv, 0, none⟩) (0 + 1) cap', ⟨?_, ?_, hlt, Nat.le_trans hle hl2.size⟩, hl2, fun g hg => ?_⟩
    · have := HBM.out.put 2 (.slice (some ⟨gv, 0, none⟩) (0 + 1) cap')
      simpa using this
    · rw [keepV_nil (by show ¬ l < 1; omega)]
      have h1 := own_lv (S := fun g => g = gm) HOW.out (Lv.setCell (S := fun g => g = gm) (Lv.refl _ _) (p := ⟨gm, 2, none⟩) (fun _ => rfl) (.slice (some ⟨gv, 0, none⟩) (0 + 1) cap')) (fun g hg he => by have := (own_blk HOW.out hg).1; omega)
      simpa using h1
    · rcases HBK.out with h | ⟨g', h, h'⟩
      · rw [h] at hg; exact .inl hg
      · rw [h] at hg; cases hg
        exact .inr (Nat.le_trans hx.size h')
  · have hown := HS.out.own
    have hbz := HB.out ⟨p, q, z⟩ (by simp)
    dsimp only at hbz
    obtain ⟨⟨z1, z2⟩, ⟨z3, z4⟩, z5⟩ := hbz
    rw [List.length_append] at hlen hown
    simp only [List.length_singleton] at hlen hown
    obtain ⟨g1, k1, rfl⟩ := ownsRow_succ hown
    obtain ⟨A1, k2, hv, -, hM⟩ := ownM_mts hown (HB.out.wf (by omega))
    cases hv
    obtain ⟨ba, oa, mt, hA1, hba, hmt, -, d0, d1, d2⟩ := hM.get (k := r.length) (by omega)
    cases hA1
    rw [List.getElem?_append_right (Nat.le_refl _), Nat.sub_self] at hmt
    simp only [List.getElem?_cons_zero, Option.some.injEq] at hmt
    subst hmt
    simp only [Nat.zero_add] at d0 d1 d2
    have hfz := hown.frozenAt (r.length * 3 + 2)
    have HOW0 := Lib.hid hown; have D0 := Lib.hid d0
    clear hown hM
    have e1 : IntKind.i64.wrap (p + z) = p + z := wrap_in (by omega) (by omega)
    have e2 : IntKind.i64.wrap (q + z) = q + z := wrap_in (by omega) (by omega)
    have e3 : IntKind.i64.wrap (z + l) = z + l := wrap_in (by omega) (by omega)
    have r1 : r.length < r.length + 1 := by omega
    by_cases ha : p + z = x ∧ q + z = y
    case pos =>
      obtain ⟨ha1, ha2⟩ := ha
      have q1 : (p + z == x) = true := by simp [ha1]
      have q2 : (q + z == y) = true := by simp [ha2]
      have hk := keepV_join (r := r) (x := ⟨p, q, z⟩) (m := ⟨x, y, l⟩) HL1.out ha1 ha2
      have HK := Lib.hid hk; have HA1 := Lib.hid ha1; have HA2 := Lib.hid ha2; clear hk ha1 ha2
      go_enter Try.func38, Try.ntmps38
      go_wp2_with fail
      go_quiet (fail)
      go_wp2_with fail
      refine bodyPost_ret (results_none rfl _ _ _) rfl ?_
      have hst := (own_stab3 ((Ext.refl w).drewN nq) HOW0.out).stored (r.length * 3 + 2) (.int .i64 (z + l))
      rw [flat_set r ⟨p, q, z⟩ (z + l)] at hst
      have hE := (Ext.refl w).drewN nq
      refine ⟨⟨_, rfl⟩, .slice (some ⟨g1, 0, none⟩) (r.length + 1) k1, ⟨?_, ?_, HS.out.lt, ?_⟩, (Lv.of_ext hE).setCell (p := ⟨g1, r.length * 3 + 2, none⟩) (fun _ => .inr rfl) _, fun g h => .inl h⟩
      · exact (HS.out.blk.ext hE).far (by have := (HOW0.out.lt g1 rfl).1; have := HS.out.lt; show gm ≠ g1; omega) _
      · rw [HK.out]
        have := hst.1
        simpa using this
      · have := HS.out.le; simpa using this
    case neg =>
      have HNA := Lib.hid ha
      have hq : (p + z == x) = false ∨ ((p + z == x) = true ∧ (q + z == y) = false) := by
        by_cases h1 : p + z = x
        · exact .inr ⟨by simp [h1], by simp; exact fun h => ha ⟨h1, h⟩⟩
        · exact .inl (by simp [h1])
      clear ha
      rcases hq with q1 | ⟨q1, q2⟩
      · go_enter Try.func38, Try.ntmps38
        go_wp2_with fail
        go_quiet (fail)
        go_wp2_with (at_builtin; refine wpList_append_size2 rfl (.tmp 77) (.tmp 82) 25 rfl base 32 inf _ 3 24 underM' I1.out I2.out I3.out I4.out rfl (by decide) _ _ _ (some ⟨(w.drewN nq).heap.size, 0, none⟩) 1 1 (Mt.cells ⟨x, y, l⟩) rfl (by simp [Act.eval]) rfl (by simp [Mt.cells, Value.oneCell']) (by simp only [maxLen]; omega) (by omega) (own_stab3 (((Ext.refl w).drewN nq).alloc _) HOW0.out) (Cells.new (w.drewN nq) _ _ rfl) (by have := HS.out.le; simp; omega) ?_; intro v' w2 hown hg hbk; have hbm := (HS.out.blk.ext (((Ext.refl w).drewN nq).alloc _)).own_lt (own_stab3 (((Ext.refl w).drewN nq).alloc _) HOW0.out) HS.out.lt hg; clear c0 c1 c2 f0 f1 f2; obtain ⟨e0, e1, e2⟩ := hbm.cells3; obtain ⟨y0, y1, y2⟩ := hbm.free3; obtain ⟨gv, cap', rfl⟩ := ownsRow_succ hown; have HBM := Lib.hid hbm; have HOW := Lib.hid hown; have HG := Lib.hid hg; have HBK := Lib.hid hbk; clear hbm hown hg hbk)
        refine bodyPost_end (results_none rfl _ _ _) rfl ?_
        have hlt := HS.out.lt
        have hle := HS.out.le
        have hx : Ext w ((w.drewN nq).alloc (.cells (Mt.cells ⟨x, y, l⟩).toArray 32)) := ((Ext.refl w).drewN nq).alloc _
        have hl2 := ((Lv.of_ext (S := fun g => g = gm ∨ (Value.slice (some ⟨g1, 0, none⟩) (r.length + 1) k1).ownBlock = some g) hx).grown HG.out (fun k hk _ => .inr hk)).setCell (p := ⟨gm, 2, none⟩) (fun _ => .inl rfl) (.slice (some ⟨gv, 0, none⟩) (r.length + 1 + 1) cap')
        refine ⟨⟨_, rfl⟩, .slice (some ⟨gv, 0, none⟩) (r.length + 1 + 1) cap', ⟨?_, ?_, hlt, Nat.le_trans hle hl2.size⟩, hl2, fun g hg => ?_⟩
        · have := HBM.out.put 2 (.slice (some ⟨gv, 0, none⟩) (r.length + 1 + 1) cap')
          simpa using this
        · rw [keepV_new (by show ¬ l < 1; omega) HNA.out]
          have h1 := own_lv (S := fun g => g = gm) HOW.out (Lv.setCell (S := fun g => g = gm) (Lv.refl _ _) (p := ⟨gm, 2, none⟩) (fun _ => rfl) (.slice (some ⟨gv, 0, none⟩) (r.length + 1 + 1) cap')) (fun g hg he => by have := (own_blk HOW.out hg).1; omega)
          simpa using h1
        · rcases HBK.out with h | ⟨g', h, h'⟩
          · rw [h] at hg; exact .inl hg
          · rw [h] at hg; cases hg
            exact .inr (Nat.le_trans hx.size h')
      · go_enter Try.func38, Try.ntmps38
        go_wp2_with fail
        go_quiet (fail)
        go_wp2_with (at_builtin; refine wpList_append_size2 rfl (.tmp 77) (.tmp 82) 25 rfl base 32 inf _ 3 24 underM' I1.out I2.out I3.out I4.out rfl (by decide) _ _ _ (some ⟨(w.drewN nq).heap.size, 0, none⟩) 1 1 (Mt.cells ⟨x, y, l⟩) rfl (by simp [Act.eval]) rfl (by simp [Mt.cells, Value.oneCell']) (by simp only [maxLen]; omega) (by omega) (own_stab3 (((Ext.refl w).drewN nq).alloc _) HOW0.out) (Cells.new (w.drewN nq) _ _ rfl) (by have := HS.out.le; simp; omega) ?_; intro v' w2 hown hg hbk; have hbm := (HS.out.blk.ext (((Ext.refl w).drewN nq).alloc _)).own_lt (own_stab3 (((Ext.refl w).drewN nq).alloc _) HOW0.out) HS.out.lt hg; clear c0 c1 c2 f0 f1 f2; obtain ⟨e0, e1, e2⟩ := hbm.cells3; obtain ⟨y0, y1, y2⟩ := hbm.free3; obtain ⟨gv, cap', rfl⟩ := ownsRow_succ hown; have HBM := Lib.hid hbm; have HOW := Lib.hid hown; have HG := Lib.hid hg; have HBK := Lib.hid hbk; clear hbm hown hg hbk)
        refine bodyPost_end (results_none rfl _ _ _) rfl ?_
        have hlt := HS.out.lt
        have hle := HS.out.le
        have hx : Ext w ((w.drewN nq).alloc (.cells (Mt.cells ⟨x, y, l⟩).toArray 32)) := ((Ext.refl w).drewN nq).alloc _
        have hl2 := ((Lv.of_ext (S := fun g => g = gm ∨ (Value.slice (some ⟨g1, 0, none⟩) (r.length + 1) k1).ownBlock = some g) hx).grown HG.out (fun k hk _ => .inr hk)).setCell (p := ⟨gm, 2, none⟩) (fun _ => .inl rfl) (.slice (some ⟨gv, 0, none⟩) (r.length + 1 + 1) cap')
        refine ⟨⟨_, rfl⟩, .slice (some ⟨gv, 0, none⟩) (r.length + 1 + 1) cap', ⟨?_, ?_, hlt, Nat.le_trans hle hl2.size⟩, hl2, fun g hg => ?_⟩
        · have := HBM.out.put 2 (.slice (some ⟨gv, 0, none⟩) (r.length + 1 + 1) cap')
          simpa using this
        · rw [keepV_new (by show ¬ l < 1; omega) HNA.out]
          have h1 := own_lv (S := fun g => g = gm) HOW.out (Lv.setCell (S := fun g => g = gm) (Lv.refl _ _) (p := ⟨gm, 2, none⟩) (fun _ => rfl) (.slice (some ⟨gv, 0, none⟩) (r.length + 1 + 1) cap')) (fun g hg he => by have := (own_blk HOW.out hg).1; omega)
          simpa using h1
        · rcases HBK.out with h | ⟨g', h, h'⟩
          · rw [h] at hg; exact .inl hg
          · rw [h] at hg; cases hg
            exact .inr (Nat.le_trans hx.size h')
end Go.Proofs.Ytmmhbnlafcmloaa

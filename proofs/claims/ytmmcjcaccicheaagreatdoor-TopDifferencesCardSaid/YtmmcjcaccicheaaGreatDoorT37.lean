/- UdBlk: parts of the proof of TopDifferences, one text behind the other. No condition. -/
import Derived.Test.YtmmcjcaccicheaaGreatDoorT36
import Derived.Test.YtmmcjcaccicheaaGreatDoorT29
/- The contract of unified's Blocks for hunks that fit. -/
namespace Go.Proofs.YtmmcjcaccicheaaGreatDoor
open Go.RowKit
attribute [local go_sem] Oper.semAt_some

/-! ### The memory between two groups -/
structure QMem (z10 z11 n1 : Nat) (v : Value) (vs : List Value) (out : List Bk) (sh : Int) (W : World) : Prop where
  o : Blk W z10 (.cells #[v] 44)
  s : Blk W z11 (.cells #[.int .i64 sh] 3)
  own : W.ownsRow n1 80 5 v out.length (bcs out vs)
  rows : SRows W n1 vs (out.map fun b => b.ls.map lnS)
  lvs : vs.length = out.length
def QS (z10 z11 : Nat) (v : Value) : Nat → Prop := fun g => g = z10 ∨ g = z11 ∨ v.ownBlock = some g
section
variable {z10 z11 n1 : Nat} {v : Value} {vs : List Value} {out : List Bk} {sh : Int} {W W' : World}
theorem QMem.lv {S : Nat → Prop} (h : QMem z10 z11 n1 v vs out sh W) (k : Lv S W W') (h0 : ¬ S z10) (h1 : ¬ S z11) (h2 : ∀ g, v.ownBlock = some g → ¬ S g) (h3 : ∀ u ∈ vs, ∀ g, u.ownBlock = some g → ¬ S g) : QMem z10 z11 n1 v vs out sh W' :=
  ⟨h.o.lv k h0, h.s.lv k h1, own_lv h.own k h2, h.rows.lv k h3, h.lvs⟩
theorem QMem.ext (h : QMem z10 z11 n1 v vs out sh W) (e : Ext W W') : QMem z10 z11 n1 v vs out sh W' := h.lv (Lv.of_ext (S := fun _ => False) e) id id (fun _ _ => id) (fun _ _ _ _ => id)
theorem QMem.row (h : QMem z10 z11 n1 v vs out sh W) {u : Value} (hu : u ∈ vs) {g : Nat} (hg : u.ownBlock = some g) : n1 ≤ g ∧ ∃ cs, Blk W g (.cells cs 9 (0, 0)) := by
  obtain ⟨j, hj⟩ := List.getElem?_of_mem hu
  obtain ⟨l, _, ho⟩ := h.rows.get hj
  exact own_blk ho hg
theorem QMem.firm {It : Nat → Prop} {n : Nat} (h : QMem z10 z11 n1 v vs out sh W) (k : Lv (fun g => It g ∨ (n ≤ g ∧ NC W g)) W W') (hIt : ∀ g, ¬ It g) : QMem z10 z11 n1 v vs out sh W' := by
  refine h.lv k ?_ ?_ (fun g hg hs => ?_) (fun u hu g hg hs => ?_)
  · rintro (hs | hs); exact hIt _ hs; exact h.o.nc hs.2
  · rintro (hs | hs); exact hIt _ hs; exact h.s.nc hs.2
  · rcases hs with hs | hs; exact hIt _ hs; obtain ⟨_, c, hc⟩ := own_blk h.own hg; exact hc.nc hs.2
  · rcases hs with hs | hs; exact hIt _ hs; obtain ⟨_, c, hc⟩ := h.row hu hg; exact hc.nc hs.2
theorem QMem.setS (h : QMem z10 z11 n1 v vs out sh W) (hn : z10 < n1 ∧ z11 < n1 ∧ z10 ≠ z11) (x : Int) : QMem z10 z11 n1 v vs out x (W.setCell ⟨z11, 0, none⟩ (.int .i64 x)) := by
  have k := (Lv.refl (fun g => g = z11) W).setCell (p := ⟨z11, 0, none⟩) (fun _ => rfl) (.int .i64 x)
  exact ⟨h.o.lv k hn.2.2, h.s.put 0 _, own_lv h.own k (fun g hg e => by have := (own_blk h.own hg).1; omega), h.rows.lv k (fun u hu g hg e => by have := (h.row hu hg).1; omega), h.lvs⟩
theorem QMem.size (h : QMem z10 z11 n1 v vs out sh W) : ∀ g, QS z10 z11 v g → g < W.heap.size := by
  rintro g (rfl | rfl | hg)
  · exact h.o.lt
  · exact h.s.lt
  · obtain ⟨_, c, hc⟩ := own_blk h.own hg; exact hc.lt
/-- Another row of strings has grown, or another block has turned. -/
theorem QMem.far {p : Addr} (h : QMem z10 z11 n1 v vs out sh W) (hp : ∀ g, QS z10 z11 v g → g ≠ p.block) (hv : ∀ u ∈ vs, ∀ g, u.ownBlock = some g → g ≠ p.block) (x : Value) : QMem z10 z11 n1 v vs out sh (W.setCell p x) :=
  h.lv ((Lv.refl (fun g => g = p.block) W).setCell (p := p) (fun _ => rfl) x) (hp _ (.inl rfl)) (hp _ (.inr (.inl rfl))) (fun g hg => hp g (.inr (.inr hg))) hv
end
theorem groups_is (A : Option Addr) (n c : Nat) (cx : Int) (w : World) :
    Calls Tryz.prog 37 #[.slice A n c, .int .i64 cx] w fun e w' => e = .returned (.func (.func 63) #[] #[.pointer (some ⟨w.heap.size, 0, none⟩), .pointer (some ⟨w.heap.size + 1, 0, none⟩)]) ∧ w' = (w.alloc (.cells #[.slice A n c] 32)).alloc (.cells #[.int .i64 cx] 3) := by
  go_enter Tryz.func37, Tryz.ntmps37
  go_wp2_with fail
  go_ret
  exact ⟨rfl, rfl⟩
/-- The memory within a group: the block zb that is being written. -/
abbrev bo (at0 E : Nat) (na nl : Int) (lv : Value) : Obj := .cells #[.int .i64 at0, .int .i64 ((E : Int) - at0), .int .i64 na, .int .i64 nl, lv] 80
structure GMem (wA W0 : World) (z10 z11 n1 : Nat) (v : Value) (vs : List Value) (out : List Bk) (zb at0 E : Nat) (na nl : Int) (body : Bdy) (lv lr : Value) (sh : Int) (W : World) : Prop where
  lvl : Lv (QS z10 z11 v) W0 W
  ext : Ext wA W
  q : QMem z10 z11 n1 v vs out sh W
  blk : Blk W zb (bo at0 E na nl lv)
  row : W.ownsRow n1 9 1 lr body.length ((body.map lnS).map Value.string)
  new : W0.heap.size ≤ zb
  low : z10 < n1 ∧ z11 < n1 ∧ z10 ≠ z11 ∧ wA.heap.size ≤ z10 ∧ wA.heap.size ≤ z11 ∧ n1 ≤ W0.heap.size
  old : ∀ g, QS z10 z11 v g → g < W0.heap.size
  apart : ∀ (g : Nat), lr.ownBlock = some g → ∀ x ∈ vs, x.ownBlock ≠ some g
  fresh : ∀ (g : Nat), lr.ownBlock = some g → W0.heap.size ≤ g
section
variable {wA W0 W W' : World} {z10 z11 n1 zb at0 E : Nat} {v : Value} {vs : List Value} {out : List Bk} {na nl : Int} {body : Bdy} {lv lr : Value} {sh : Int}
theorem GMem.e (h : GMem wA W0 z10 z11 n1 v vs out zb at0 E na nl body lv lr sh W) (e : Ext W W') : GMem wA W0 z10 z11 n1 v vs out zb at0 E na nl body lv lr sh W' :=
  ⟨h.lvl.ext e, h.ext.trans e, h.q.ext e, h.blk.ext e, own_stab3 e h.row, h.new, h.low, h.old, h.apart, h.fresh⟩
theorem GMem.sizes (h : GMem wA W0 z10 z11 n1 v vs out zb at0 E na nl body lv lr sh W) : W0.heap.size ≤ W.heap.size := h.lvl.size
/-- What lies below the first world has not turned. -/
theorem GMem.keep (h : GMem wA W0 z10 z11 n1 v vs out zb at0 E na nl body lv lr sh W) (k : Lv (fun g => g = zb ∨ g = z11 ∨ lr.ownBlock = some g) W W') : Ext wA W' :=
  k.extBelow h.ext (fun g hg hs => by
    have := h.low; have := h.new
    rcases hs with hs | hs | hs
    · omega
    · omega
    · have := (own_blk h.row hs).1; omega)
theorem GMem.setL {body' : Bdy} {v' : Value} (h : GMem wA W0 z10 z11 n1 v vs out zb at0 E na nl body lv lr sh W) (ho : W.ownsRow n1 9 1 v' body'.length ((body'.map lnS).map Value.string)) (ha : ∀ (g : Nat), v'.ownBlock = some g → ∀ x ∈ vs, x.ownBlock ≠ some g) (hf : ∀ (g : Nat), v'.ownBlock = some g → W0.heap.size ≤ g) :
    GMem wA W0 z10 z11 n1 v vs out zb at0 E na nl body' v' v' sh (W.setCell ⟨zb, 4, none⟩ v') := by
  have k := (Lv.refl (fun g => g = zb) W).setCell (p := ⟨zb, 4, none⟩) (fun _ => rfl) v'
  have hn := h.new
  have hb := h.blk.put 4 v'
  refine ⟨h.lvl.setCell (p := ⟨zb, 4, none⟩) (fun hlt => absurd hlt (by show ¬ zb < _; omega)) v', h.keep (k.mono (fun g _ e => .inl e)), h.q.far (fun g hg => by have := h.old g hg; show g ≠ zb; omega) (fun u hu g hg e => ?_) v', hb, own_lv ho k (fun g hg e => ?_), h.new, h.low, h.old, ha, hf⟩
  · obtain ⟨_, c, hc⟩ := h.q.row hu hg
    have e2 : g = zb := e
    subst e2
    exact absurd (blk_type hc h.blk) (by decide)
  · obtain ⟨_, c, hc⟩ := own_blk ho hg
    subst e
    exact absurd (blk_type hc h.blk) (by decide)
theorem GMem.setN (h : GMem wA W0 z10 z11 n1 v vs out zb at0 E na nl body lv lr sh W) (x : Int) : GMem wA W0 z10 z11 n1 v vs out zb at0 E na x body lv lr sh (W.setCell ⟨zb, 3, none⟩ (.int .i64 x)) := by
  have k := (Lv.refl (fun g => g = zb) W).setCell (p := ⟨zb, 3, none⟩) (fun _ => rfl) (.int .i64 x)
  have hn := h.new
  have hb := h.blk.put 3 (.int .i64 x)
  refine ⟨h.lvl.setCell (p := ⟨zb, 3, none⟩) (fun hlt => absurd hlt (by show ¬ zb < _; omega)) _, h.keep (k.mono (fun g _ e => .inl e)), h.q.far (fun g hg => by have := h.old g hg; show g ≠ zb; omega) (fun u hu g hg e => ?_) _, hb, own_lv h.row k (fun g hg e => ?_), h.new, h.low, h.old, h.apart, h.fresh⟩
  · obtain ⟨_, c, hc⟩ := h.q.row hu hg
    have e2 : g = zb := e
    subst e2
    exact absurd (blk_type hc h.blk) (by decide)
  · obtain ⟨_, c, hc⟩ := own_blk h.row hg
    subst e
    exact absurd (blk_type hc h.blk) (by decide)
theorem GMem.grow {body' : Bdy} {v' : Value} (h : GMem wA W0 z10 z11 n1 v vs out zb at0 E na nl body lv lr sh W) (hg : W.grownBy W' lr.ownBlock) (ho : W'.ownsRow n1 9 1 v' body'.length ((body'.map lnS).map Value.string)) (hb : v'.ownBlock = lr.ownBlock ∨ ∃ g, v'.ownBlock = some g ∧ W.heap.size ≤ g) :
    GMem wA W0 z10 z11 n1 v vs out zb at0 E na nl body' lv v' sh W' := by
  have k := (Lv.refl (fun g => lr.ownBlock = some g) W).grown hg (fun k hk _ => hk)
  have hty : ∀ (g : Nat) (cs : Array Value) (ty : TypeId), Blk W g (.cells cs ty (0, 0)) → (9 : TypeId) ≠ ty → lr.ownBlock ≠ some g := fun g cs ty hc hne e => by
    obtain ⟨_, c, hc'⟩ := own_blk h.row e
    exact hne (blk_type hc' hc)
  have hsz := h.sizes
  refine ⟨h.lvl.grown hg (fun k hk hlt => by have := h.fresh k hk; omega), h.keep (k.mono (fun g _ e => .inr (.inr e))), h.q.lv k (hty _ _ _ h.q.o (by decide)) (hty _ _ _ h.q.s (by decide)) (fun g hgv e => own_sep h.row h.q.own (by decide) e hgv) (fun u hu g hgu e => h.apart g e u hu hgu), h.blk.lv k (hty _ _ _ h.blk (by decide)), ho, h.new, h.low, h.old, fun g hgv => ?_, fun g hgv => ?_⟩
  · rcases hb with hb | ⟨g', hg', hle⟩
    · exact h.apart g (hb ▸ hgv)
    · rw [hg'] at hgv; cases hgv
      intro x hx e
      obtain ⟨_, c, hc⟩ := h.q.row hx e
      have := hc.lt; omega
  · rcases hb with hb | ⟨g', hg', hle⟩
    · exact h.fresh g (hb ▸ hgv)
    · rw [hg'] at hgv; cases hgv; omega
theorem SRows.add {W : World} {n1 : Nat} {vs : List Value} {ls : List Lns} {u : Value} {l : Lns} (h : SRows W n1 vs ls) (ho : W.ownsRow n1 9 1 u l.length (l.map Value.string)) (ha : ∀ (g : Nat), u.ownBlock = some g → ∀ x ∈ vs, x.ownBlock ≠ some g) : SRows W n1 (vs ++ [u]) (ls ++ [l]) := by
  have cs : ∀ (k : Nat) (x : Value), (vs ++ [u])[k]? = some x → vs[k]? = some x ∨ k = vs.length ∧ x = u := fun k x hx => by
    rcases Nat.lt_or_ge k vs.length with hk | hk
    · rw [List.getElem?_append_left hk] at hx; exact .inl hx
    · have : k = vs.length := by have := (List.getElem?_eq_some_iff.1 hx).1; simp at this; omega
      subst this
      rw [List.getElem?_concat_length] at hx
      exact .inr ⟨rfl, (Option.some.inj hx).symm⟩
  refine ⟨by simp [h.len], fun j x y hx hy => ?_, fun i j x y g hx hy hij hgx hgy => ?_⟩
  · rcases cs j x hx with hx | ⟨rfl, rfl⟩
    · rw [List.getElem?_append_left (by rw [← h.len]; exact (List.getElem?_eq_some_iff.1 hx).1)] at hy
      exact h.own j x y hx hy
    · rw [h.len, List.getElem?_concat_length] at hy
      cases hy; exact ho
  · rcases cs i x hx with hx' | ⟨hi, ex⟩
    · rcases cs j y hy with hy' | ⟨hj, ey⟩
      · exact h.sep i j x y g hx' hy' hij hgx hgy
      · exact ha g (ey ▸ hgy) x (mem_of_get hx') hgx
    · rcases cs j y hy with hy' | ⟨hj, ey⟩
      · exact ha g (ex ▸ hgx) y (mem_of_get hy') hgy
      · exact hij (hi.trans hj.symm)
theorem GMem.outB (h : GMem wA W0 z10 z11 n1 v vs out zb at0 E na nl body lv lr sh W) (hg : W.grownBy W' v.ownBlock) : Blk W' z10 (.cells #[v] 44) := by
  refine h.q.o.lv ((Lv.refl (fun g => v.ownBlock = some g) W).grown hg (fun k hk _ => hk)) (fun e => ?_)
  obtain ⟨_, c, hc⟩ := own_blk h.q.own e
  exact absurd (blk_type hc h.q.o) (by decide)
theorem GMem.push {v2 : Value} {bk : Bk} (h : GMem wA W0 z10 z11 n1 v vs out zb at0 E na nl body lv lr sh W) (h1 : bk.oa = at0) (h2 : (E : Int) - at0 = bk.ol) (h3 : na = bk.na) (h4 : nl = bk.nl) (h5 : bk.ls = body) (hg : W.grownBy W' v.ownBlock)
    (ho : W'.ownsRow n1 80 5 v2 (out.length + 1) (bcs out vs ++ [.int .i64 at0, .int .i64 ((E : Int) - at0), .int .i64 na, .int .i64 nl, lr])) (hb : v2.ownBlock = v.ownBlock ∨ ∃ g, v2.ownBlock = some g ∧ W.heap.size ≤ g) :
    QMem z10 z11 n1 v2 (vs ++ [lr]) (out ++ [bk]) sh (W'.setCell ⟨z10, 0, none⟩ v2) ∧ Lv (QS z10 z11 v) W0 (W'.setCell ⟨z10, 0, none⟩ v2) ∧ Ext wA (W'.setCell ⟨z10, 0, none⟩ v2) ∧ ∀ g, QS z10 z11 v2 g → QS z10 z11 v g ∨ W0.heap.size ≤ g := by
  have k := (Lv.refl (fun g => v.ownBlock = some g) W).grown hg (fun k hk _ => hk)
  have k2 := (Lv.refl (fun g => g = z10) W').setCell (p := ⟨z10, 0, none⟩) (fun _ => rfl) v2
  have hl := h.low
  have hty : ∀ (g : Nat) (cs : Array Value) (ty : TypeId), Blk W g (.cells cs ty (0, 0)) → (80 : TypeId) ≠ ty → v.ownBlock ≠ some g := fun g cs ty hc hne e => by
    obtain ⟨_, c, hc'⟩ := own_blk h.q.own e
    exact hne (blk_type hc' hc)
  have hrow : W'.ownsRow n1 9 1 lr body.length ((body.map lnS).map Value.string) := own_lv h.row k (fun g hg' e => own_sep h.row h.q.own (by decide) hg' e)
  have hrows : SRows W' n1 vs (out.map fun b => b.ls.map lnS) := h.q.rows.lv k (fun u hu g hgu e => by obtain ⟨_, c, hc⟩ := h.q.row hu hgu; exact hty _ _ _ hc (by decide) e)
  have hrows2 := hrows.add (l := body.map lnS) (by rw [List.length_map]; exact hrow) h.apart
  have hsz := h.sizes
  refine ⟨⟨(h.outB hg).put 0 v2, (h.q.s.lv k (hty _ _ _ h.q.s (by decide))).lv k2 (fun e => hl.2.2.1 e.symm), own_lv ?_ k2 (fun g hgv e => ?_), ?_, by simp [h.q.lvs]⟩, (h.lvl.grown hg (fun k hk _ => .inr (.inr hk))).setCell (p := ⟨z10, 0, none⟩) (fun _ => .inl rfl) v2, ?_, ?_⟩
  · rw [bcs_snoc bk lr out vs h.q.lvs, List.length_append, List.length_singleton, h1, ← h2, ← h3, ← h4]; exact ho
  · have := (own_blk ho hgv).1; omega
  · rw [List.map_append, List.map_singleton, h5]
    exact hrows2.lv k2 (fun u hu g hgu e => by
      obtain ⟨j, hj⟩ := List.getElem?_of_mem hu
      obtain ⟨l, _, hol⟩ := hrows2.get hj
      have := (own_blk hol hgu).1; omega)
  · exact k2.extBelow (k.extBelow h.ext (fun g hg' e => by have := (own_blk h.q.own e).1; omega)) (fun g hg' e => by omega)
  · rintro g (e | e | e)
    · exact .inl (.inl e)
    · exact .inl (.inr (.inl e))
    · rcases hb with hb | ⟨g', hg', hle⟩
      · exact .inl (.inr (.inr (hb ▸ e)))
      · rw [hg'] at e; cases e; exact .inr (by omega)
theorem GMem.setSh (h : GMem wA W0 z10 z11 n1 v vs out zb at0 E na nl body lv lr sh W) (x : Int) : GMem wA W0 z10 z11 n1 v vs out zb at0 E na nl body lv lr x (W.setCell ⟨z11, 0, none⟩ (.int .i64 x)) := by
  have k := (Lv.refl (fun g => g = z11) W).setCell (p := ⟨z11, 0, none⟩) (fun _ => rfl) (.int .i64 x)
  have hl := h.low; have hn := h.new
  exact ⟨h.lvl.setCell (p := ⟨z11, 0, none⟩) (fun _ => .inr (.inl rfl)) _, h.keep (k.mono (fun g _ e => .inr (.inl e))), h.q.setS ⟨hl.1, hl.2.1, hl.2.2.1⟩ x, h.blk.lv k (by omega), own_lv h.row k (fun g hg e => by have := (own_blk h.row hg).1; omega), h.new, h.low, h.old, h.apart, h.fresh⟩
end
theorem oldG_mono (L : List Sg) {i j : Nat} (h : i ≤ j) : (oldG (L.take i)).length ≤ (oldG (L.take j)).length := by
  have := congrArg List.length (congrArg oldG (take_sub L i j h))
  rw [oldG_app, List.length_append] at this; omega
theorem newG_mono (L : List Sg) {i j : Nat} (h : i ≤ j) : (newG (L.take i)).length ≤ (newG (L.take j)).length := by
  have := congrArg List.length (congrArg newG (take_sub L i j h))
  rw [newG_app, List.length_append] at this; omega
theorem preB_small {a : Lns} (ha : ∀ s ∈ a, s.size ≤ 100000) : ∀ (l : List Hp) (at_ : Nat), (∀ h ∈ l, (∀ s ∈ h.old, s.size ≤ 100000) ∧ ∀ s ∈ h.new, s.size ≤ 100000) → ∀ x ∈ preB a at_ l, x.s.size ≤ 100000
  | [], _, _, x, hx => by simp [preB] at hx
  | h :: r, at_, hl, x, hx => by
    have tgm : ∀ (k : Tg) (l : Lns), x ∈ tg k l → x.s ∈ l := fun k l hm => by
      obtain ⟨s, hs, rfl⟩ := List.mem_map.1 hm
      exact hs
    simp only [preB, List.mem_append] at hx
    rcases hx with ((hx | hx) | hx) | hx
    · exact ha _ (List.mem_of_mem_drop (List.mem_of_mem_take (tgm _ _ hx)))
    · exact (hl h (by simp)).1 _ (tgm _ _ hx)
    · exact (hl h (by simp)).2 _ (tgm _ _ hx)
    · exact preB_small ha r _ (fun h hh => hl h (by simp [hh])) x hx
theorem hksG_mem : ∀ (L : List Sg) (x : Nat) (h : Hp), h ∈ hksG x L → (∀ s ∈ h.old, s ∈ oldG L) ∧ ∀ s ∈ h.new, s ∈ newG L
  | [], _, _, h => by simp [hksG] at h
  | s :: r, x, h, hh => by
    simp only [hksG, List.mem_cons] at hh
    rcases hh with rfl | hh
    · exact ⟨fun y hy => by simp only [oldG, List.mem_append]; exact .inl (.inr hy), fun y hy => by simp only [newG, List.mem_append]; exact .inl (.inr hy)⟩
    · have := hksG_mem r _ h hh
      exact ⟨fun y hy => by simp only [oldG, List.mem_append]; exact .inr (this.1 y hy), fun y hy => by simp only [newG, List.mem_append]; exact .inr (this.2 y hy)⟩
theorem tg_lns (k : Tg) (l : Lns) : (tg k l).map lnS = l.map fun s => lnS ⟨k, s⟩ := by simp [tg, List.map_map, Function.comp_def]
theorem blk_is (a : Lns) {L : List Sg} {f u cx F GO at0 E : Nat} {sh : Int} {p0 : Sg} (hfu : f < u) (hu : u ≤ L.length) (hp0 : L[f]? = some p0) (hF : (oldG (L.take f)).length + p0.k.length = F) (hX : (oldG (L.take u)).length = GO) (hat : F - cx = at0) (hE : min a.length (GO + cx) = E) :
    ∃ h r, cutH (hksG 0 L) (f, u) = h :: r ∧ blkV a cx sh h r = ⟨at0, E - at0, ((at0 : Int) + sh).toNat, ((E : Int) - at0 + sumD (((hksG 0 L).drop f).take (u - f))).toNat, preB a at0 (((hksG 0 L).drop f).take (u - f)) ++ tg .ctx ((a.drop GO).take (E - GO))⟩ := by
  have hg := hksG_get L 0 f p0 hp0
  have hd := drop_of hg
  obtain ⟨r, hr⟩ : ∃ r, ((hksG 0 L).drop (f + 1)).take (u - f - 1) = r := ⟨_, rfl⟩
  have hc : ((hksG 0 L).drop f).take (u - f) = ⟨0 + (oldG (L.take f)).length + p0.k.length, p0.o, p0.n⟩ :: r := by
    rw [hd, show u - f = (u - f - 1) + 1 by omega, List.take_succ_cons, hr]
  refine ⟨_, r, hc, ?_⟩
  have hl := lastE_dt (L := L) (f := f) (j := u - f) 0 (by omega) (by omega)
  have hl2 := lastE_dt (L := L) (f := f) (j := u - f) at0 (by omega) (by omega)
  rw [show f + (u - f) = u by omega, hX] at hl hl2
  have hat2 : 0 + (oldG (L.take f)).length + p0.k.length - cx = at0 := by omega
  rw [hc] at hl hl2 ⊢
  unfold blkV
  simp only [hat2, hl, hE, bodyV_pre, hl2]
theorem bks_small {L : List GB} (ha : ∀ s ∈ oldS L, s.size ≤ 100000) (hb : ∀ s ∈ newS L, s.size ≤ 100000) (hl : (oldS L).length + (newS L).length ≤ 100000) : ∀ k ∈ bksS 0 0 L, k.ls.length ≤ 100000 ∧ ∀ x ∈ k.ls, x.s.size ≤ 100000 := by
  intro k hk
  obtain ⟨j, hj⟩ := List.getElem?_of_mem hk
  have hjl : j < L.length := by have := (List.getElem?_eq_some_iff.1 hj).1; rwa [bksS_len] at this
  obtain ⟨p, hp⟩ : ∃ p, L[j]? = some p := ⟨_, List.getElem?_eq_getElem hjl⟩
  rw [bksS_get L 0 0 j p hp] at hj
  cases hj
  have h1 := oldS_next hp; have h2 := newS_next hp
  have h3 := oldS_cut L (j + 1); have h4 := newS_cut L (j + 1)
  rw [h1] at h3; rw [h2] at h4
  have l3 := congrArg List.length h3; have l4 := congrArg List.length h4
  simp only [List.length_append] at l3 l4
  refine ⟨?_, fun x hx => ?_⟩
  · have := c_le p.2; have := c_old p.2; have := c_new p.2
    simp only; omega
  · have hor : x.s ∈ oldB p.2 ∨ x.s ∈ newB p.2 := by
      clear h1 h2 h3 h4 l3 l4
      generalize p.2 = q at hx
      induction q with
      | nil => simp at hx
      | cons y r ih =>
        obtain ⟨k, s⟩ := y
        rcases List.mem_cons.1 hx with rfl | hx
        · cases k <;> simp [oldB, newB]
        · rcases ih hx with h | h
          · left; cases k <;> simp [oldB, h]
          · right; cases k <;> simp [newB, h]
    rcases hor with h | h
    · exact ha _ (by rw [h3]; simp [h])
    · exact hb _ (by rw [h4]; simp [h])
/-- What a round may count on. -/
def QI (w : World) (a : Lns) (L : List Sg) (cx z10 z11 n1 : Nat) (pre : List (Nat × Nat)) (S : Nat → Prop) (W : World) : Prop :=
  ∃ v vs, QMem z10 z11 n1 v vs (blksV a cx 0 (pre.map (cutH (hksG 0 L)))) (shT 0 (pre.map (cutH (hksG 0 L)))) W ∧ S = QS z10 z11 v ∧ Ext w W
theorem encG_size (A : Option Addr) (c : Nat) (p : Nat × Nat) (vs : Array Value) (S : Nat → Prop) (W : World) (h : EncG A c p vs S W) : vs.size = 1 := by
  unfold EncG at h; subst h; rfl
set_option maxRecDepth 100000 in
set_option maxHeartbeats 16000000 in
theorem blocks_any (A B : Option Addr) (n c m d : Nat) (L : List Sg) (t : Lns) (cx : Nat) (w : World) (ha : Strs w A n (oldG L ++ t)) (hb : Hps w B m (hksG 0 L)) (hok : okG L) (hn : n ≤ 1000) (hnc : n ≤ c) (hc0 : c ≤ maxLen) (hm : m ≤ 1000) (hmd : m ≤ d) (hd0 : d ≤ maxLen) (hcx : cx ≤ 100)
    (hnew : (newG L).length ≤ 1000) (hsa : ∀ s ∈ oldG L ++ t, s.size ≤ 100000) (hsb : ∀ s ∈ newG L, s.size ≤ 100000) :
    Calls Tryz.prog 17 #[.slice A n c, .slice B m d, .int .i64 cx] w fun r w' => Ext w w' ∧ ∃ C k e, r = .returned (.tuple #[.slice C k e, .int .i64 0]) ∧ k ≤ e ∧ e ≤ maxLen ∧ Bks w' C k (blksV (oldG L ++ t) cx 0 (grpV cx [] (hksG 0 L))) := by
  have hlen := hb.len
  rw [hksG_len] at hlen
  have halen := ha.len
  rw [List.length_append] at halen
  have HA := Lib.hid ha; have HB := Lib.hid hb; have HOK := Lib.hid hok; have HN := Lib.hid hlen; have HNW := Lib.hid hnew; have HAL := Lib.hid halen; have HSA := Lib.hid hsa; have HSB := Lib.hid hsb
  clear ha hb hlen hok hnew hsa hsb halen
  have E0 := Lib.hid (((Ext.refl w).alloc (.cells #[.slice A n c] 22)).alloc (.cells #[.int .i64 cx] 3))
  obtain ⟨B0, hB0⟩ : ∃ B0, w.heap.size = B0 := ⟨_, rfl⟩
  have K0 := ((Know.start w).new (.cells #[.slice A n c] 22) hB0.symm).new (.cells #[.int .i64 cx] 3) (g := B0 + 1) (by simp [hB0])
  refine calls_marks Tryz.func17 rfl ?_
  simp only [Tryz.ntmps17, List.size_toArray, List.length_cons, List.length_nil, Nat.reduceAdd, Nat.reduceSub, Array.replicate_succ, Array.replicate_zero, List.push_toArray, List.append_toArray, List.nil_append, List.cons_append]
  have c3 : ((w.alloc (.cells #[.slice A n c] 22)).alloc (.cells #[.int .i64 cx] 3)).cell? ⟨B0, 0, none⟩ = some (.slice A n c) := (K0.at 1 rfl).cell 0
  have c5 : ((w.alloc (.cells #[.slice A n c] 22)).alloc (.cells #[.int .i64 cx] 3)).cell? ⟨B0 + 1, 0, none⟩ = some (.int .i64 cx) := (K0.at 0 rfl).cell 0
  obtain ⟨wA, hwA⟩ : ∃ wA, wA = (w.alloc (.cells #[.slice A n c] 22)).alloc (.cells #[.int .i64 cx] 3) := ⟨_, rfl⟩
  have hzA : wA.heap.size = B0 + 2 := by rw [hwA]; simp [hB0]
  have eA := K0.1
  have a3 : Blk _ B0 (.cells #[.slice A n c] 22) := K0.at 1 rfl
  have a5 : Blk _ (B0 + 1) (.cells #[.int .i64 cx] 3) := K0.at 0 rfl
  rw [← hwA] at eA a3 a5
  have EA := Lib.hid eA; have A3 := Lib.hid a3; have A5 := Lib.hid a5; have ZA := Lib.hid hzA; have HWA := Lib.hid hwA
  clear hwA hzA eA a3 a5
  go_wp2_with fail
  have hap := happly_any A B n c m d L t _ (HA.out.ext K0.1) (HB.out.ext K0.1) hn hnc hc0 hm HOK.out HNW.out (fun s hs => by have := HSB.out s hs; unfold Reach; omega)
  refine hap.mono ?_
  rintro r w1 ⟨hE1, vb, rfl, _⟩
  have K1 := Know.ext K0 hE1
  obtain ⟨z10, hz10⟩ : ∃ z, w1.heap.size = z := ⟨_, rfl⟩
  have K2 := (K1.new (.cells #[.slice none 0 0] 44) hz10.symm).new (.cells #[.int .i64 0] 3) (g := z10 + 1) (by simp [hz10])
  have K3 := (K2.new (.cells #[.slice B m d] 32) (g := z10 + 2) (by simp [hz10])).new (.cells #[.int .i64 cx] 3) (g := z10 + 3) (by simp [hz10])
  have hlow : B0 + 2 ≤ z10 := by have := hE1.size; simp [hB0, hz10] at this; omega
  have c5' : ((w1.alloc (.cells #[.slice none 0 0] 44)).alloc (.cells #[.int .i64 0] 3)).cell? ⟨B0 + 1, 0, none⟩ = some (.int .i64 cx) := (K2.at 2 rfl).cell 0
  clear c3 c5 hap E0 K0 K1 K2
  go_wp2_with fail
  have hgr := groups_is B m d cx ((w1.alloc (.cells #[.slice none 0 0] 44)).alloc (.cells #[.int .i64 0] 3))
  simp only [World.size_alloc, hz10, Nat.add_assoc, Nat.reduceAdd] at hgr
  refine hgr.mono ?_
  rintro r w2 ⟨rfl, hw2⟩
  rw [← hw2] at K3
  have e2 : Ext wA w2 := by rw [HWA.out, hw2]; exact (((hE1.alloc _).alloc _).alloc _).alloc _
  have hz2 : w2.heap.size = z10 + 4 := by rw [hw2]; simp [hz10]
  have q0 : QMem z10 (z10 + 1) (z10 + 4) (.slice none 0 0) [] [] 0 w2 := ⟨K3.at 3 rfl, K3.at 2 rfl, World.ownsRow_nil _ _ _ _, SRows.nil _ _, rfl⟩
  have b1 : Blk w2 (z10 + 2) (.cells #[.slice B m d] 32) := K3.at 1 rfl
  have b2 : Blk w2 (z10 + 3) (.cells #[.int .i64 cx] 3) := K3.at 0 rfl
  have Q0 := Lib.hid q0; have E2 := Lib.hid e2; have Q1 := Lib.hid b1; have Q2 := Lib.hid b2; have Z2 := Lib.hid hz2; have HB0 := Lib.hid hB0; have HLOW := Lib.hid hlow
  clear K3 hE1 e2 hw2 hz2 q0 b1 b2 hz10 hgr c5' hB0 hlow
  go_wp2_with fail
  obtain ⟨AT, hAT⟩ : ∃ AT : Value → Act, AT = fun x => { tmps := #[.slice A n c, .slice B m d, .int .i64 cx, .pointer (some ⟨B0, 0, none⟩), undef, .pointer (some ⟨B0 + 1, 0, none⟩), .slice none 0 0, .int .i64 0, vb, .int .i64 0, .pointer (some ⟨z10, 0, none⟩), .pointer (some ⟨z10 + 1, 0, none⟩), x, undef, undef, undef, undef, undef, undef, .int .i64 cx, .bool (decide ((cx : Int) < 0)), .bool (decide ((cx : Int) < 0)), .int .i64 cx, .bool (decide (100 < (cx : Int))), .bool (decide ((cx : Int) < 0) || decide (100 < (cx : Int))), .tuple #[vb, .int .i64 0], .slice A n c, .slice B m d, .tuple #[vb, .int .i64 0], vb, .int .i64 0, .int .i64 0, .bool false, undef, .slice B m d, .int .i64 cx, .func (.func 63) #[] #[.pointer (some ⟨z10 + 2, 0, none⟩), .pointer (some ⟨z10 + 3, 0, none⟩)], x, undef, undef, undef, undef, undef, undef, undef, undef, undef, undef, undef, undef, undef, undef, undef, undef, undef, undef, undef, undef, undef, undef, undef, undef, undef, undef, undef, undef, undef, undef, undef, undef, undef, undef, undef, undef, undef, undef, undef, undef, undef, undef, undef, undef, undef, undef, undef, undef, undef, undef, undef, undef, undef, undef, undef, undef, undef, undef, undef, undef, undef, undef, undef, undef, undef, undef, undef, undef, undef, undef, undef, undef, undef, undef, undef, undef, undef, undef, undef, undef, undef, undef, undef, undef, undef, undef, undef, undef, undef, undef, undef, undef, undef, undef, undef, undef], defers := [] } := ⟨_, rfl⟩
  refine wp_of_In (wpIn_range4 (gf := 63) rfl (enters_of Tryz.func63 (by kernel_rfl) rfl) (groups_iter wA B m d cx (hksG 0 L) (HB.out.ext EA.out) hm hmd hd0 (hksG_asc L 0) ?hat hcx (z10 + 2) (z10 + 3)) (encG_size B d) (fun x vs S W W' h _ => h) (fun x vs S S' W h _ => h) (fun g h => h.elim)
    (QI wA (oldG L ++ t) L cx z10 (z10 + 1) (z10 + 4)) (fun _ _ _ _ => False) ?hI (fun _ _ _ _ _ h _ => h.elim) (QS z10 (z10 + 1) (.slice none 0 0)) ?h0 ?hS0 ?hpre
    (fun x vs W a₁ W' => W' = W ∧ a₁ = AT (.slice (B.map (fun y => y.add (x.1 * 3))) (x.2 - x.1) (d - x.1))) (fun x vs W a₁ W' h => h.1 ▸ Ext.refl _) ?assign ?body ?done (fun _ _ _ _ _ _ _ _ h _ => h.elim))
  case hat =>
    intro h hh
    obtain ⟨k, hk⟩ := List.getElem?_of_mem hh
    have hkl : k < L.length := by have := (List.getElem?_eq_some_iff.1 hk).1; rwa [hksG_len] at this
    obtain ⟨p, hp⟩ : ∃ p, L[k]? = some p := ⟨_, List.getElem?_eq_getElem hkl⟩
    rw [hksG_get L 0 k p hp] at hk
    cases hk
    have h1 := congrArg List.length (oldG_next hp)
    have h2 := congrArg List.length (oldG_cut L (k + 1))
    have h3 := HAL.out
    simp only [List.length_append] at h1 h2
    constructor
    · simp only; omega
    · simp only; omega
  case hI =>
    rintro pre S W W' ⟨v, vs, hq, hS, hE⟩ k
    have hz := Z2.out
    exact ⟨v, vs, hq.firm k (fun _ h => h), hS, k.extBelow hE (fun g hg h => by have := ZA.out; have := HLOW.out; rcases h with h | h; exact h; omega)⟩
  case h0 => exact ⟨_, [], Q0.out, rfl, E2.out⟩
  case hS0 => intro g hg; exact Q0.out.size g hg
  case hpre =>
    intro S W hE hS
    have hz := Z2.out; have hlow := HLOW.out; have hb0 := ZA.out
    have nS : ∀ g, g < z10 + 4 → g ≠ z10 → g ≠ z10 + 1 → ¬ S g := fun g hg n1 n2 h => by
      rcases hS g (by omega) h with h | h | h
      · exact n1 h
      · exact n2 h
      · cases h
    exact ⟨E2.out.trans hE, fun g hg => nS g (by omega) (by omega) (by omega), Q1.out.ext hE, Q2.out.ext hE, nS _ (by omega) (by omega) (by omega), nS _ (by omega) (by omega) (by omega)⟩
  case assign =>
    rintro l ⟨f, u⟩ vs S W K henc hK
    unfold EncG at henc
    subst henc
    rw [hAT] at hK
    obtain ⟨x, hx⟩ : ∃ x : Value, .slice (B.map (fun y => y.add (f * 3))) (u - f) (d - f) = x := ⟨_, rfl⟩
    simp only [hx] at hK ⊢
    gi_wp2
  case done =>
    intro D S W hD hSD hI hW
    obtain ⟨v, vs, hq, hS, hE⟩ := hI
    have hgl := grpI_law cx (hksG 0 L) (hksG 0 L) [] 0 0 rfl (by simp) (Nat.le_refl _)
    rw [hgl] at hq
    obtain ⟨L', t', hl1, hl2, hl3, hl4⟩ := blks_law cx L t HOK.out
    have hsm := bks_small (L := L') (fun s hs => HSA.out s (by rw [hl2]; simp [hs])) (fun s hs => by
      have h1 : s ∈ newG L ++ t := by rw [hl3]; simp [hs]
      rcases List.mem_append.1 h1 with h | h
      · exact HSB.out s h
      · exact HSA.out s (by simp [h])) (by
      have h1 := congrArg List.length hl2; have h2 := congrArg List.length hl3; have h3 := HAL.out; have h4 := HNW.out
      simp only [List.length_append] at h1 h2; omega)
    rw [← hl1] at hsm
    obtain ⟨C, e, hv, hc1, hc2, hbk⟩ := bks_of hq.own hq.rows (fun b hb => ⟨by have := (hsm b hb).1; unfold Reach; omega, fun x hx => by have := (hsm b hb).2 x hx; unfold Reach; omega⟩)
    subst hv
    have d3 : W.cell? ⟨z10, 0, none⟩ = some _ := hq.o.cell 0
    have HD := Lib.hid hW; have HE := Lib.hid (EA.out.trans hE); have HBK := Lib.hid hbk; have HC1 := Lib.hid hc1; have HC2 := Lib.hid hc2
    have HZD := Lib.hid (show w.heap.size ≤ D by have := Z2.out; have := HLOW.out; have := HB0.out; omega)
    obtain ⟨kk, hkk⟩ : ∃ kk, (blksV (oldG L ++ t) cx 0 (grpV cx [] (hksG 0 L))).length = kk := ⟨_, rfl⟩
    rw [hkk] at d3
    have HKK := Lib.hid hkk; have HQD := Lib.hid hq; have HSM := Lib.hid hsm
    clear hgl hl1 hl2 hl3 hl4 hsm hq hS hE hc1 hc2 hbk hW hSD hkk
    go_wp2_with fail
    refine ⟨by simp, .inl ⟨_, _, rfl, run_takeDeferred HD.out, ?_⟩⟩
    have lp : Lv (fun g => g = D) W (W.putObj D (.deferred none)) := Lv.putObj (S := fun g => g = D) (Lv.refl _ _) (fun _ => rfl) _
    have notD : ∀ g cs (ty : TypeId), Blk W g (.cells cs ty (0, 0)) → g ≠ D := fun g cs ty hg he => by
      subst he
      have := HD.out
      unfold Blk at hg
      rw [hg] at this; cases this
    have o10 := own_lv HQD.out.own lp (fun g hg h => by
      obtain ⟨hb, cs, hc⟩ := own_blk HQD.out.own hg
      exact notD g _ _ hc h)
    have r10 := HQD.out.rows.lv lp (fun v hv g hg h => by
      obtain ⟨hb, cs, hc⟩ := HQD.out.row hv hg
      exact notD g _ _ hc h)
    obtain ⟨A', c', hv', hc1', hc2', hbk'⟩ := bks_of o10 r10 (fun b hb => ⟨by have := (HSM.out b hb).1; unfold Reach; omega, fun x hx => by have := (HSM.out b hb).2 x hx; unfold Reach; omega⟩)
    have e10 : Ext w (W.putObj D (.deferred none)) := lp.extBelow HE.out (fun g hg h => by have := HZD.out; omega)
    refine ⟨.tuple #[.slice C kk e, .int .i64 0], ?_, e10, A', _, c', by rw [← hv', ← HKK.out], hc1', hc2', hbk'⟩
    generalize W.putObj D (.deferred none) = W10
    simp [results, Tryz.results17, go_sem]
  case body =>
    rintro l pre ⟨f, u⟩ vs S W0 W' W a₁ ⟨rfl, rfl⟩ hle0 hvb ⟨v, vs, hq, hS, hE⟩ hleW hpx henc hSl
    have hg := grpN_of m hpx
    have hNl := HN.out
    obtain ⟨b, off, y0, x0, rfl, hb0, hx0, hr0, c0, -, -⟩ := HB.out.get (k := f) (by have := hg.lt; have := hg.le; omega)
    obtain ⟨b', off', y1, x1, hB1, hb1, hx1, hr1, e0, e1, e2⟩ := HB.out.get (k := u - 1) (by have := hg.lt; have := hg.le; omega)
    obtain ⟨rfl, rfl⟩ : b = b' ∧ off = off' := by simpa using hB1
    obtain ⟨p0, hp0⟩ : ∃ p, L[f]? = some p := ⟨_, List.getElem?_eq_getElem (by have := hg.lt; have := hg.le; omega)⟩
    obtain ⟨p1, hp1⟩ : ∃ p, L[u - 1]? = some p := ⟨_, List.getElem?_eq_getElem (by have := hg.lt; have := hg.le; omega)⟩
    rw [hksG_get L 0 f p0 hp0] at hx0
    rw [hksG_get L 0 (u - 1) p1 hp1] at hx1
    obtain rfl := Option.some.inj hx0
    obtain rfl := Option.some.inj hx1
    obtain ⟨y0at, y0oa, y0ol, y0oc, y0na, y0nl, y0nc⟩ := y0
    obtain ⟨y1at, y1oa, y1ol, y1oc, y1na, y1nl, y1nc⟩ := y1
    have k1 : y0at = ((oldG (L.take f)).length + p0.k.length : Nat) := by have := hr0.at_; simpa using this
    have k2 : y1at = ((oldG (L.take (u - 1))).length + p1.k.length : Nat) := by have := hr1.at_; simpa using this
    have k3 : y1ol = p1.o.length := by have := hr1.old.1; simp at this; exact this.symm
    dsimp only at c0 e0 e1 e2
    have hO0 := congrArg List.length (oldG_next hp0)
    have hO1 := congrArg List.length (oldG_next hp1)
    have hN0 := congrArg List.length (newG_next hp0)
    rw [show u - 1 + 1 = u by have := hg.lt; omega] at hO1
    simp only [List.length_append] at hO0 hO1 hN0
    have hCu := congrArg List.length (oldG_cut L u)
    have hDu := congrArg List.length (newG_cut L u)
    simp only [List.length_append] at hCu hDu
    have hal := HAL.out; have hnl := HNW.out
    obtain ⟨F, hF⟩ : ∃ F, (oldG (L.take f)).length + p0.k.length = F := ⟨_, rfl⟩
    obtain ⟨G, hG⟩ : ∃ G, (oldG (L.take (u - 1))).length + p1.k.length = G := ⟨_, rfl⟩
    obtain ⟨O, hO⟩ : ∃ O, p1.o.length = O := ⟨_, rfl⟩
    obtain ⟨at0, hat0⟩ : ∃ at0, F - cx = at0 := ⟨_, rfl⟩
    obtain ⟨E, hEE⟩ : ∃ E, min n (G + O + cx) = E := ⟨_, rfl⟩
    have hXu : (oldG (L.take u)).length = G + O := by omega
    have hGn : G + O ≤ n := by omega
    have hFn : F ≤ G + O := by
      have := oldG_mono L (i := f + 1) (j := u) (by have := hg.lt; omega); omega
    rw [k1, hF] at c0
    rw [k2, hG] at e0
    rw [k3, hO] at e1
    obtain ⟨sh, hsh⟩ : ∃ sh, shT 0 (pre.map (cutH (hksG 0 L))) = sh := ⟨_, rfl⟩
    rw [hsh] at hq
    have hshv := hg.sh
    rw [hsh] at hshv
    have cb := (HB.out.ext EA.out).ext hE
    replace c0 := hE.cell (EA.out.cell c0); replace e0 := hE.cell (EA.out.cell e0); replace e1 := hE.cell (EA.out.cell e1); replace e2 := hE.cell (EA.out.cell e2)
    have ca : W.cell? ⟨B0, 0, none⟩ = some (.slice A n c) := hE.cell (A3.out.cell 0)
    have cc : W.cell? ⟨B0 + 1, 0, none⟩ = some (.int .i64 cx) := hE.cell (A5.out.cell 0)
    have cs : W.cell? ⟨z10 + 1, 0, none⟩ = some (.int .i64 sh) := hq.s.cell 0
    have hsb2 : -1000 ≤ sh ∧ sh ≤ 1000 := by have := newG_mono L (i := f) (j := u) (by have := hg.lt; omega); omega
    have HSB2 := Lib.hid hsb2; clear hsb2
    have i1 : ((u - f : Nat) : Int) - 1 = ((u - 1 - f : Nat) : Int) := by have := hg.lt; omega
    have i2 : off + f * 3 + (u - 1 - f) * 3 = off + (u - 1) * 3 := by have := hg.lt; omega
    have hlt := hg.lt
    have hul : u ≤ m := by have := hg.le; omega
    have HG := Lib.hid hg; have HQ := Lib.hid hq; have HS := Lib.hid hS; have HE := Lib.hid hE; have HPX := Lib.hid hpx; have HP0 := Lib.hid hp0; have HP1 := Lib.hid hp1; have HR0 := Lib.hid hr0; have HR1 := Lib.hid hr1
    have HF := Lib.hid hF; have HGG := Lib.hid hG; have HO := Lib.hid hO; have HXU := Lib.hid hXu; have HSH := Lib.hid hsh; have HSV := Lib.hid hshv
    have HN0 := Lib.hid hN0; have HO0 := Lib.hid hO0; have HAT0 := Lib.hid hat0; have HEE := Lib.hid hEE
    rw [hAT]
    clear hg hq hS hE hpx hp0 hp1 hr0 hr1 hF hG hO hXu hsh hshv hN0 hO0 hO1 hat0 hEE hCu hDu hal hnl k1 k2 k3 cb hx0 hx1 hB1 hAT henc hvb hSl
    gi_wp2
    obtain ⟨z13, hz13⟩ : ∃ z, W.heap.size = z := ⟨_, rfl⟩
    have n13 := Blk.new W (.cells #[.int .i64 G, .slice y1oa O y1oc, .slice y1na y1nl y1nc] 69) hz13.symm
    have x13 := (Ext.refl W).alloc (.cells #[.int .i64 G, .slice y1oa O y1oc, .slice y1na y1nl y1nc] 69)
    obtain ⟨W13, hW13⟩ : ∃ W13, W13 = W.alloc (.cells #[.int .i64 G, .slice y1oa O y1oc, .slice y1na y1nl y1nc] 69) := ⟨_, rfl⟩
    rw [← hW13] at n13 x13 ⊢
    rw [hz13]
    clear hW13
    have huf : 0 < u - f := by omega
    have hw1 : IntKind.i64.wrap ((F : Int) - cx) = (F : Int) - cx := IntWalk.i64_in _ (by omega)
    have hmx : max 0 ((F : Int) - cx) = (at0 : Int) := by have := HAT0.out; omega
    have X13 := Lib.hid x13
    replace c0 := x13.cell c0; replace ca := x13.cell ca; replace cc := x13.cell cc; replace cs := x13.cell cs
    clear x13 e0 e1 e2
    refine wpIn_region_Y 7 (fun wx => Ext W13 wx) (fun wx => Ext W13 wx) (by kernel_rfl) (by kernel_rfl) (fun ⟨_, _, h⟩ => h) (Ext.refl W13).drew (wpY_takes (by kernel_rfl) (fun _ d _ _ _ h => by cases d <;> exact h) (Stab.ext _) (fun _ h => h) (fuel := 1) [0, 1, 2, 3, 4, 5, 6] _ _ (Waited.start _) (by kernel_rfl) (by kernel_rfl) (by kernel_rfl) ?_)
    iterate 7
      refine wpTk_want rfl (Eq.refl true) ?_
      apply Exists.intro
      refine ⟨fun wx hx => ?_, ?_⟩
      · replace c0 := Ext.cell hx c0; replace cc := Ext.cell hx cc
        clear hx
        go_simp
        first
          | with_reducible exact gives_ok _ _ _
          | (rw [hmx]; with_reducible exact gives_ok _ _ _)
      simp only [Act.put, List.setIfInBounds_toArray, List.set_cons_zero, List.set_cons_succ]
    refine wpTk_nil ?_
    refine wpY_one 7 (by kernel_rfl) rfl rfl (fun wz hz K hK => ?_)
    have hz' := Lib.hid hz
    clear hz
    go_simp
    refine hK _ _ ⟨(fun wx => Ext W13 wx), Stab.ext _, .inl (by kernel_rfl), hz'.out, ?_⟩
    clear hK K hz' wz
    refine wpY_done (by kernel_rfl) (fun wz hz => ?_) _
    have hz' := Lib.hid hz
    replace c0 := Ext.cell hz c0; replace ca := Ext.cell hz ca; replace cc := Ext.cell hz cc; replace cs := Ext.cell hz cs
    have n13' := n13.ext hz
    obtain ⟨d0, d1, d2⟩ := n13'.cells3
    clear hz hw1 hmx
    have hw2 : IntKind.i64.wrap ((G : Int) + O + cx) = (G : Int) + O + cx := IntWalk.i64_in _ (by omega)
    have hw3 : IntKind.i64.wrap ((G : Int) + O) = (G : Int) + O := IntWalk.i64_in _ (by omega)
    have hmn : min (n : Int) ((G : Int) + O + cx) = (E : Int) := by have := HEE.out; omega
    have hab : at0 ≤ E := by have := HEE.out; have := HAT0.out; omega
    have hw4 : IntKind.i64.wrap ((E : Int) - at0) = (E : Int) - at0 := IntWalk.i64_in _ (by omega)
    have hw5 : IntKind.i64.wrap ((at0 : Int) + sh) = (at0 : Int) + sh := IntWalk.i64_in _ (by have := HSB2.out; omega)
    gi_wp2
    obtain ⟨wC, hwC⟩ : ∃ wC : World, wC = wz.alloc (bo at0 E ((at0 : Int) + sh) 0 (.slice none 0 0)) := ⟨_, rfl⟩
    obtain ⟨zb, hzb⟩ : ∃ z, wz.heap.size = z := ⟨_, rfl⟩
    have nb := Blk.new wz (bo at0 E ((at0 : Int) + sh) 0 (.slice none 0 0)) hzb.symm
    have xb : Ext W wC := by rw [hwC]; exact (X13.out.trans hz'.out).alloc _
    have hzb1 : W.heap.size ≤ zb := by rw [← hzb]; exact (X13.out.trans hz'.out).size
    have hS' : S = QS z10 (z10 + 1) v := HS.out
    have g0 : GMem wA W z10 (z10 + 1) (z10 + 4) v vs (blksV (oldG L ++ t) cx 0 (pre.map (cutH (hksG 0 L)))) zb at0 E ((at0 : Int) + sh) 0 (preB (oldG L ++ t) at0 (((hksG 0 L).drop f).take 0)) (.slice none 0 0) (.slice none 0 0) (sh + sumD (((hksG 0 L).drop f).take 0)) wC := by
      refine ⟨(Lv.refl _ W).ext xb, HE.out.trans xb, ?_, by rw [hwC]; exact nb, World.ownsRow_nil _ _ _ _, hzb1, ⟨by omega, by omega, by omega, by have := ZA.out; have := HLOW.out; omega, by have := ZA.out; have := HLOW.out; omega, by have := Z2.out; omega⟩, HQ.out.size, fun g hg => (by cases hg), fun g hg => (by cases hg)⟩
      have : sh + sumD (((hksG 0 L).drop f).take 0) = sh := by simp [sumD]
      rw [this]; exact HQ.out.ext xb
    rw [hzb, ← hwC]
    have G0 := Lib.hid g0
    clear nb xb hzb1 hS' g0 hzb hwC c0 ca cc cs d0 d1 d2 n13 n13' X13 hz' hw2 hw3 hw4 hw5 hmn HQ i1 i2
    gi_loopw [14, 72] (fun at_ i wr => ∃ (j : Nat) (lv : Value), j ≤ u - f ∧ i = .int .i64 j ∧ at_ = .int .i64 (lastE at0 (((hksG 0 L).drop f).take j) : Nat) ∧ GMem wA W z10 (z10 + 1) (z10 + 4) v vs (blksV (oldG L ++ t) cx 0 (pre.map (cutH (hksG 0 L)))) zb at0 E ((at0 : Int) + sh) 0 (preB (oldG L ++ t) at0 (((hksG 0 L).drop f).take j)) lv lv (sh + sumD (((hksG 0 L).drop f).take j)) wr) (fun _ i _ => u - f - (intOf i).toNat)
    case atStart => exact ⟨0, _, Nat.zero_le _, rfl, rfl, G0.out⟩
    case round =>
      obtain ⟨j, lv, hj, rfl, rfl, hgm⟩ := hrel
      have HGM := Lib.hid hgm; clear hgm
      by_cases hjl : j < u - f
      · obtain ⟨q, hq⟩ : ∃ q, L[f + j]? = some q := ⟨_, List.getElem?_eq_getElem (by omega)⟩
        have hhk := hksG_get L 0 (f + j) q hq
        obtain ⟨b2, off2, y2, x2, hB2, hb2, hx2, hr2, c0, c1, c2⟩ := HB.out.get (k := f + j) (by omega)
        obtain ⟨rfl, rfl⟩ : b = b2 ∧ off = off2 := by simpa using hB2
        rw [hhk] at hx2
        obtain rfl := Option.some.inj hx2
        obtain ⟨yat, yoa, O2, yoc, yna, N2, ync⟩ := y2
        have hq1 := congrArg List.length (oldG_next hq)
        have hq2 := congrArg List.length (newG_next hq)
        have hq3 := oldG_mono L (i := f + j + 1) (j := u) (by omega)
        have hq4 := newG_mono L (i := f + j + 1) (j := L.length) (by omega)
        rw [List.take_length] at hq4
        simp only [List.length_append] at hq1 hq2
        have hxu := HXU.out; have hnw := HNW.out; have hal := HAL.out; have hou := congrArg List.length (oldG_cut L u)
        rw [List.length_append] at hou
        obtain ⟨H, hH⟩ : ∃ H, (oldG (L.take (f + j))).length + q.k.length = H := ⟨_, rfl⟩
        obtain ⟨P, hP⟩ : ∃ P, lastE at0 (((hksG 0 L).drop f).take j) = P := ⟨_, rfl⟩
        have hPH : P ≤ H := by
          rcases Nat.eq_zero_or_pos j with rfl | hj0
          · have h1 : P = at0 := by rw [← hP]; simp [lastE]
            have h2 := HF.out; have h3 := HP0.out
            rw [Nat.add_zero] at hq hH
            rw [h3] at hq
            cases hq
            have := HAT0.out; omega
          · rw [lastE_dt at0 hj0 (by omega)] at hP
            omega
        have ya : yat = (H : Int) := by have := hr2.at_; simp at this; omega
        have yo : O2 = q.o.length := by have := hr2.old.1; simp at this; exact this.symm
        have yn : N2 = q.n.length := by have := hr2.new.1; simp at this; exact this.symm
        have hso : Strs w yoa O2 q.o := hr2.old
        have hsn : Strs w yna N2 q.n := hr2.new
        dsimp only at c0 c1 c2
        rw [ya] at c0
        have hHn : H + O2 ≤ n := by omega
        have hN2 : N2 ≤ 1000 := by omega
        have hpl := preB_len (oldG L ++ t) L f at0 (j + 1) (by omega)
        have hps := preB_snoc (oldG L ++ t) ⟨0 + (oldG (L.take (f + j))).length + q.k.length, q.o, q.n⟩ (((hksG 0 L).drop f).take j) at0
        have htk : ((hksG 0 L).drop f).take (j + 1) = ((hksG 0 L).drop f).take j ++ [⟨0 + (oldG (L.take (f + j))).length + q.k.length, q.o, q.n⟩] := take_succ_of (by rw [List.getElem?_drop]; exact hhk)
        rw [← htk, hP, Nat.zero_add, hH] at hps
        obtain ⟨gl, hgl⟩ : ∃ gl, ((oldG L ++ t).drop P).take (H - P) = gl := ⟨_, rfl⟩
        rw [hgl] at hps
        have hgll : gl.length = H - P := by rw [← hgl, List.length_take, List.length_drop, List.length_append]; omega
        have hgsz : ∀ s ∈ gl, s.size ≤ 100000 := fun s hs => HSA.out s (List.mem_of_mem_drop (List.mem_of_mem_take (hgl ▸ hs)))
        have hmm := hksG_mem L 0 _ (mem_of_get hhk)
        have hosz : ∀ s ∈ q.o, s.size ≤ 100000 := fun s hs => HSA.out s (List.mem_append_left _ (hmm.1 s hs))
        have hnsz : ∀ s ∈ q.n, s.size ≤ 100000 := fun s hs => HSB.out s (hmm.2 s hs)
        have hbs : ∀ x ∈ preB (oldG L ++ t) at0 (((hksG 0 L).drop f).take j), x.s.size ≤ 100000 := preB_small HSA.out _ _ (fun h hh => by
          have := hksG_mem L 0 h (List.mem_of_mem_drop (List.mem_of_mem_take hh))
          exact ⟨fun s hs => HSA.out s (List.mem_append_left _ (this.1 s hs)), fun s hs => HSB.out s (this.2 s hs)⟩)
        have hrow := HGM.out.row
        rw [show (preB (oldG L ++ t) at0 (((hksG 0 L).drop f).take j)).length = ((preB (oldG L ++ t) at0 (((hksG 0 L).drop f).take j)).map lnS).length by simp] at hrow
        obtain ⟨lA, lc, hlv, hlc, hls⟩ := own_strs hrow (fun s hs => by obtain ⟨y, hy, rfl⟩ := List.mem_map.1 hs; rw [lnS_size]; have := hbs y hy; unfold Reach; omega)
        rw [List.length_map] at hlv hls hlc
        subst hlv
        have hcat : cat [⟨lA, (preB (oldG L ++ t) at0 (((hksG 0 L).drop f).take j)).length, lc, (preB (oldG L ++ t) at0 (((hksG 0 L).drop f).take j)).map lnS⟩, ⟨none, 0, 0, gl.map fun s => lnS ⟨.ctx, s⟩⟩, ⟨none, 0, 0, q.o.map fun s => lnS ⟨.del, s⟩⟩, ⟨none, 0, 0, q.n.map fun s => lnS ⟨.add, s⟩⟩] = (preB (oldG L ++ t) at0 (((hksG 0 L).drop f).take (j + 1))).map lnS := by
          rw [hps]
          simp only [cat, List.map_append, tg_lns, List.append_assoc, List.append_nil]
        have hbl : (preB (oldG L ++ t) at0 (((hksG 0 L).drop f).take (j + 1))).length = (preB (oldG L ++ t) at0 (((hksG 0 L).drop f).take j)).length + (H - P) + O2 + N2 := by
          rw [hps]; simp only [List.length_append, tg_len, hgll]; omega
        have hadd := Nat.add_assoc f j 1
        rw [← hadd] at hpl
        have hEr := HGM.out.ext
        have hEa := EA.out.trans hEr
        replace c0 := hEr.cell (EA.out.cell c0); replace c1 := hEr.cell (EA.out.cell c1); replace c2 := hEr.cell (EA.out.cell c2)
        rw [Nat.add_mul, ← Nat.add_assoc] at c0 c1 c2
        have ca : wr.cell? ⟨B0, 0, none⟩ = some (.slice A n c) := hEr.cell (A3.out.cell 0)
        have cb4 : wr.cell? ⟨zb, 4, none⟩ = some (.slice lA (preB (oldG L ++ t) at0 (((hksG 0 L).drop f).take j)).length lc) := HGM.out.blk.cell 4
        obtain ⟨A1, hA1⟩ : ∃ A', (if c = P then A else A.map (fun x => x.add P)) = A' := ⟨_, rfl⟩
        have hgs := strs_cut (HA.out.ext hEa) hnc (lo := P) (k := H - P) (by omega) hA1
        rw [hgl] at hgs
        have hHc : H ≤ c := by omega
        have HGS := Lib.hid hgs; have HSO := Lib.hid (hso.ext hEa); have HSN := Lib.hid (hsn.ext hEa); have HLS := Lib.hid hls
        have HPS := Lib.hid hps; have HCAT := Lib.hid hcat; have HBL := Lib.hid hbl; have HPL := Lib.hid hpl; have HGLL := Lib.hid hgll; have HGSZ := Lib.hid hgsz; have HOSZ := Lib.hid hosz; have HNSZ := Lib.hid hnsz; have YO := Lib.hid yo; have YN := Lib.hid yn; have HHK := Lib.hid hhk; have HTK := Lib.hid htk; have HH := Lib.hid hH; have HQ1 := Lib.hid hq1; have HBT := Lib.hid (show (preB (oldG L ++ t) at0 (((hksG 0 L).drop f).take j)).length + (H - P) + O2 + N2 ≤ 2000 by omega)
        rw [hP]
        clear hgs hso hsn hls hps hcat hbl hpl hgll hgsz hosz hnsz yo yn hhk htk hH hq1 hq2 hq3 hq4 hou hnw hal hxu hq hr2 hB2 hmm hbs hrow hP hgl hadd hEr hEa ya hlc
        gi_wp2
        obtain ⟨z18, hz18⟩ : ∃ z, wr.heap.size = z := ⟨_, rfl⟩
        obtain ⟨wC, hwC⟩ : ∃ wC : World, wC = wr.alloc (.cells #[.int .i64 H, .slice yoa O2 yoc, .slice yna N2 ync] 69) := ⟨_, rfl⟩
        have nC := Blk.new wr (.cells #[.int .i64 H, .slice yoa O2 yoc, .slice yna N2 ync] 69) hz18.symm
        have xC := (Ext.refl wr).alloc (.cells #[.int .i64 H, .slice yoa O2 yoc, .slice yna N2 ync] 69)
        rw [← hwC] at nC xC ⊢
        rw [hz18]
        have NC := Lib.hid nC; have XC := Lib.hid xC
        have h0 : wC.cell? ⟨z18, 0, none⟩ = some (.int .i64 H) := nC.cell 0
        have h1 : wC.cell? ⟨z18, 1, none⟩ = some (.slice yoa O2 yoc) := nC.cell 1
        have h2 : wC.cell? ⟨z18, 2, none⟩ = some (.slice yna N2 ync) := nC.cell 2
        replace ca := xC.cell ca; replace cb4 := xC.cell cb4
        clear nC xC hwC hz18 c0 c1 c2
        refine wpIn_region_Y 17 (fun wx => Ext wC wx) (fun wx => Ext wC wx) (by kernel_rfl) (by kernel_rfl) (fun ⟨_, _, h⟩ => h) (Ext.refl wC).drew (wpY_takes (by kernel_rfl) (fun _ d _ _ _ h => by cases d <;> exact h) (Stab.ext _) (fun _ h => h) (fuel := 7) [0, 1, 2, 3, 4, 5, 6, 8, 9, 11, 12] _ _ (Waited.start _) (by kernel_rfl) (by kernel_rfl) (by kernel_rfl) ?_)
        iterate 11
          refine wpTk_want rfl (Eq.refl true) ?_
          apply Exists.intro
          refine ⟨fun wx hx => ?_, ?_⟩
          · replace ca := Ext.cell hx ca; replace cb4 := Ext.cell hx cb4; replace h0 := Ext.cell hx h0; replace h1 := Ext.cell hx h1; replace h2 := Ext.cell hx h2
            clear hx
            go_simp
            with_reducible exact gives_ok _ _ _
          simp only [Act.put, List.setIfInBounds_toArray, List.set_cons_zero, List.set_cons_succ]
        refine wpTk_nil ?_
        clear ca cb4 h0 h1 h2
        refine wpY_one 7 (by kernel_rfl) rfl rfl (fun wz hz K hK => ?_)
        have hz' := Lib.hid hz
        clear hz
        go_simp
        refine (signed_any .ctx ⟨#[32]⟩ rfl A1 (H - P) (c - P) gl wz (HGS.out.ext (XC.out.trans hz'.out)) (by omega) HGSZ.out).mono ?_
        rintro r w5 ⟨hE5, v5, rfl, ho5⟩
        have hs9 : (gl.map fun s => lnS ⟨.ctx, s⟩).length = H - P := by rw [List.length_map]; exact HGLL.out
        rw [← hs9] at ho5
        obtain ⟨A7, c7, hv5, hc5, hs5⟩ := own_strs ho5 (fun s hs => by obtain ⟨y, hy, rfl⟩ := List.mem_map.1 hs; rw [lnS_size]; have := HGSZ.out y hy; show y.size + 1 ≤ _; unfold Reach; omega)
        rw [hs9] at hv5 hs5
        subst hv5
        refine hK _ _ ⟨(fun wx => Ext wC wx ∧ Strs wx A7 (H - P) (gl.map fun s => lnS ⟨.ctx, s⟩)), (fun _ _ e h => ⟨h.1.trans e, h.2.ext e⟩), .inr fun _ h => h.1, ⟨hz'.out.trans hE5, hs5⟩, ?_⟩
        clear hK K hz' hE5 ho5 hs5 hc5 hs9 w5 wz
        refine wpY_one 10 (by kernel_rfl) rfl rfl (fun wz hz K hK => ?_)
        have hz' := Lib.hid hz
        clear hz
        go_simp
        refine (signed_any .del ⟨#[45]⟩ rfl yoa (O2) yoc q.o wz (HSO.out.ext (XC.out.trans hz'.out.1)) (by omega) HOSZ.out).mono ?_
        rintro r w5 ⟨hE5, v5, rfl, ho5⟩
        have hs9 : (q.o.map fun s => lnS ⟨.del, s⟩).length = O2 := by rw [List.length_map]; exact YO.out.symm
        rw [← hs9] at ho5
        obtain ⟨A10, c10, hv5, hc5, hs5⟩ := own_strs ho5 (fun s hs => by obtain ⟨y, hy, rfl⟩ := List.mem_map.1 hs; rw [lnS_size]; have := HOSZ.out y hy; show y.size + 1 ≤ _; unfold Reach; omega)
        rw [hs9] at hv5 hs5
        subst hv5
        refine hK _ _ ⟨(fun wx => Ext wC wx ∧ Strs wx A7 (H - P) (gl.map fun s => lnS ⟨.ctx, s⟩) ∧ Strs wx A10 O2 (q.o.map fun s => lnS ⟨.del, s⟩)), (fun _ _ e h => ⟨h.1.trans e, h.2.1.ext e, h.2.2.ext e⟩), .inr fun _ h => h.1, ⟨hz'.out.1.trans hE5, hz'.out.2.ext hE5, hs5⟩, ?_⟩
        clear hK K hz' hE5 ho5 hs5 hc5 hs9 w5 wz
        refine wpY_one 13 (by kernel_rfl) rfl rfl (fun wz hz K hK => ?_)
        have hz' := Lib.hid hz
        clear hz
        go_simp
        refine (signed_any .add ⟨#[43]⟩ rfl yna (N2) ync q.n wz (HSN.out.ext (XC.out.trans hz'.out.1)) (by omega) HNSZ.out).mono ?_
        rintro r w5 ⟨hE5, v5, rfl, ho5⟩
        have hs9 : (q.n.map fun s => lnS ⟨.add, s⟩).length = N2 := by rw [List.length_map]; exact YN.out.symm
        rw [← hs9] at ho5
        obtain ⟨A13, c13, hv5, hc5, hs5⟩ := own_strs ho5 (fun s hs => by obtain ⟨y, hy, rfl⟩ := List.mem_map.1 hs; rw [lnS_size]; have := HNSZ.out y hy; show y.size + 1 ≤ _; unfold Reach; omega)
        rw [hs9] at hv5 hs5
        subst hv5
        refine hK _ _ ⟨(fun wx => Ext wC wx ∧ Strs wx A7 (H - P) (gl.map fun s => lnS ⟨.ctx, s⟩) ∧ Strs wx A10 O2 (q.o.map fun s => lnS ⟨.del, s⟩) ∧ Strs wx A13 N2 (q.n.map fun s => lnS ⟨.add, s⟩)), (fun _ _ e h => ⟨h.1.trans e, h.2.1.ext e, h.2.2.1.ext e, h.2.2.2.ext e⟩), .inr fun _ h => h.1, ⟨hz'.out.1.trans hE5, hz'.out.2.1.ext hE5, hz'.out.2.2.ext hE5, hs5⟩, ?_⟩
        clear hK K hz' hE5 ho5 hs5 hc5 hs9 w5 wz
        refine wpY_one 14 (by kernel_rfl) rfl rfl (fun wz hz K hK => ?_)
        obtain ⟨z14, hz14⟩ : ∃ z, wz.heap.size = z := ⟨_, rfl⟩
        have nb := Blk.new wz (.cells #[.slice lA (preB (oldG L ++ t) at0 (((hksG 0 L).drop f).take j)).length lc, .slice A7 (H - P) c7, .slice A10 O2 c10, .slice A13 N2 c13] 22) hz14.symm
        have ne := (Ext.refl wz).alloc (.cells #[.slice lA (preB (oldG L ++ t) at0 (((hksG 0 L).drop f).take j)).length lc, .slice A7 (H - P) c7, .slice A10 O2 c10, .slice A13 N2 c13] 22)
        have kA := Lib.hid (⟨hz.1.trans ne, hz.2.1.ext ne, hz.2.2.1.ext ne, hz.2.2.2.ext ne, nb⟩ : _ ∧ _ ∧ _ ∧ _ ∧ _)
        clear hz nb ne
        go_simp
        refine hK _ _ ⟨(fun wx => Ext wC wx ∧ Strs wx A7 (H - P) (gl.map fun s => lnS ⟨.ctx, s⟩) ∧ Strs wx A10 O2 (q.o.map fun s => lnS ⟨.del, s⟩) ∧ Strs wx A13 N2 (q.n.map fun s => lnS ⟨.add, s⟩) ∧ Blk wx z14 (.cells #[.slice lA (preB (oldG L ++ t) at0 (((hksG 0 L).drop f).take j)).length lc, .slice A7 (H - P) c7, .slice A10 O2 c10, .slice A13 N2 c13] 22)), (fun _ _ e h => ⟨h.1.trans e, h.2.1.ext e, h.2.2.1.ext e, h.2.2.2.1.ext e, h.2.2.2.2.ext e⟩), .inr fun _ h => h.1, kA.out, ?_⟩
        clear kA hK K hz14 wz
        refine wpY_one 15 (by kernel_rfl) rfl rfl (fun wz hz K hK => ?_)
        have hz' := Lib.hid hz
        clear hz
        go_simp
        have hcc := concat_any [⟨lA, (preB (oldG L ++ t) at0 (((hksG 0 L).drop f).take j)).length, lc, (preB (oldG L ++ t) at0 (((hksG 0 L).drop f).take j)).map lnS⟩, ⟨A7, H - P, c7, gl.map fun s => lnS ⟨.ctx, s⟩⟩, ⟨A10, O2, c10, q.o.map fun s => lnS ⟨.del, s⟩⟩, ⟨A13, N2, c13, q.n.map fun s => lnS ⟨.add, s⟩⟩] 4 z14 wz rfl (by omega) hz'.out.2.2.2.2 (by
          intro x hx
          simp only [List.mem_cons, List.not_mem_nil, or_false] at hx
          rcases hx with rfl | rfl | rfl | rfl
          · exact HLS.out.ext (XC.out.trans hz'.out.1)
          · exact hz'.out.2.1
          · exact hz'.out.2.2.1
          · exact hz'.out.2.2.2.1) (by have := HBT.out; simp only [tot]; omega)
        rw [show cat [⟨lA, (preB (oldG L ++ t) at0 (((hksG 0 L).drop f).take j)).length, lc, (preB (oldG L ++ t) at0 (((hksG 0 L).drop f).take j)).map lnS⟩, ⟨A7, H - P, c7, gl.map fun s => lnS ⟨.ctx, s⟩⟩, ⟨A10, O2, c10, q.o.map fun s => lnS ⟨.del, s⟩⟩, ⟨A13, N2, c13, q.n.map fun s => lnS ⟨.add, s⟩⟩] = (preB (oldG L ++ t) at0 (((hksG 0 L).drop f).take (j + 1))).map lnS from HCAT.out] at hcc
        refine hcc.mono ?_
        rintro r w5 ⟨hE5, v15, rfl, ho5⟩
        rw [List.length_map] at ho5
        obtain ⟨lA2, lc2, rfl⟩ := own_shp ho5
        have hlow : wC.heap.size ≤ wz.heap.size := hz'.out.1.size
        have hz4 : z10 + 4 ≤ wC.heap.size := by have := XC.out.size; have := HGM.out.sizes; have := Z2.out; omega
        refine hK _ _ ⟨(fun wx => Ext wC wx ∧ wx.ownsRow (z10 + 4) 9 1 (.slice lA2 (preB (oldG L ++ t) at0 (((hksG 0 L).drop f).take (j + 1))).length lc2) (preB (oldG L ++ t) at0 (((hksG 0 L).drop f).take (j + 1))).length (((preB (oldG L ++ t) at0 (((hksG 0 L).drop f).take (j + 1))).map lnS).map Value.string) ∧ ∀ g, Value.ownBlock (.slice lA2 (preB (oldG L ++ t) at0 (((hksG 0 L).drop f).take (j + 1))).length lc2) = some g → wC.heap.size ≤ g), (fun _ _ e h => ⟨h.1.trans e, own_stab3 e h.2.1, h.2.2⟩), .inr fun _ h => h.1, ⟨hz'.out.1.trans hE5, own_base ho5 (by omega), fun g hg => Nat.le_trans hlow (own_blk ho5 hg).1⟩, ?_⟩
        clear hcc hK K hz' hE5 ho5 hlow hz4 w5 wz
        refine wpY_one 16 (by kernel_rfl) rfl rfl (fun wz hz K hK => ?_)
        have hz' := Lib.hid hz
        clear hz
        go_simp
        refine hK _ _ ⟨(fun wx => Ext wC wx ∧ wx.ownsRow (z10 + 4) 9 1 (.slice lA2 (preB (oldG L ++ t) at0 (((hksG 0 L).drop f).take (j + 1))).length lc2) (preB (oldG L ++ t) at0 (((hksG 0 L).drop f).take (j + 1))).length (((preB (oldG L ++ t) at0 (((hksG 0 L).drop f).take (j + 1))).map lnS).map Value.string) ∧ ∀ g, Value.ownBlock (.slice lA2 (preB (oldG L ++ t) at0 (((hksG 0 L).drop f).take (j + 1))).length lc2) = some g → wC.heap.size ≤ g), (fun _ _ e h => ⟨h.1.trans e, own_stab3 e h.2.1, h.2.2⟩), .inr fun _ h => h.1, hz'.out, ?_⟩
        clear hK K hz' wz
        refine wpY_one 17 (by kernel_rfl) rfl rfl (fun wz hz K hK => ?_)
        have hgz := HGM.out.e (XC.out.trans hz.1)
        have d4 : wz.cell? ⟨zb, 4, none⟩ = some (.slice lA (preB (oldG L ++ t) at0 (((hksG 0 L).drop f).take j)).length lc) := hgz.blk.cell 4
        have f4 := hgz.blk.free 4
        have kM := hgz.setL hz.2.1 (fun g hg x hx hxg => by
          have h1 := hz.2.2 g hg
          obtain ⟨_, c, hc⟩ := HGM.out.q.row hx hxg
          have := hc.lt; have := XC.out.size; omega) (fun g hg => Nat.le_trans (Nat.le_trans HGM.out.sizes XC.out.size) (hz.2.2 g hg))
        have kB : Blk (wz.setCell ⟨zb, 4, none⟩ (.slice lA2 (preB (oldG L ++ t) at0 (((hksG 0 L).drop f).take (j + 1))).length lc2)) z18 (.cells #[.int .i64 H, .slice yoa O2 yoc, .slice yna N2 ync] 69) := (NC.out.ext hz.1).far (p := ⟨zb, 4, none⟩) (fun e => by
          have e2 : z18 = zb := e
          subst e2
          exact absurd (blk_type (NC.out.ext hz.1) hgz.blk) (by decide)) (.slice lA2 (preB (oldG L ++ t) at0 (((hksG 0 L).drop f).take (j + 1))).length lc2)
        clear hz hgz
        go_simp
        refine hK _ _ ⟨(fun wx => GMem wA W z10 (z10 + 1) (z10 + 4) v vs (blksV (oldG L ++ t) cx 0 (pre.map (cutH (hksG 0 L)))) zb at0 E ((at0 : Int) + sh) 0 (preB (oldG L ++ t) at0 (((hksG 0 L).drop f).take (j + 1))) (.slice lA2 (preB (oldG L ++ t) at0 (((hksG 0 L).drop f).take (j + 1))).length lc2) (.slice lA2 (preB (oldG L ++ t) at0 (((hksG 0 L).drop f).take (j + 1))).length lc2) (sh + sumD (((hksG 0 L).drop f).take j)) wx ∧ Blk wx z18 (.cells #[.int .i64 H, .slice yoa O2 yoc, .slice yna N2 ync] 69)), (fun _ _ e h => ⟨h.1.e e, h.2.ext e⟩), .inl (by kernel_rfl), ⟨kM, kB⟩, ?_⟩
        clear kM kB hK K d4 f4 wz
        refine wpY_done (by kernel_rfl) (fun wz hz => ?_) _
        have HZ := Lib.hid hz
        have h0 : wz.cell? ⟨z18, 0, none⟩ = some (.int .i64 H) := hz.2.cell 0
        have h1 : wz.cell? ⟨z18, 1, none⟩ = some (.slice yoa O2 yoc) := hz.2.cell 1
        have h2 : wz.cell? ⟨z18, 2, none⟩ = some (.slice yna N2 ync) := hz.2.cell 2
        have cs : wz.cell? ⟨z10 + 1, 0, none⟩ = some (.int .i64 (sh + sumD (((hksG 0 L).drop f).take j))) := hz.1.q.s.cell 0
        have fs := hz.1.q.s.free 0
        clear hz
        have hw6 : IntKind.i64.wrap ((H : Int) + O2) = (H : Int) + O2 := IntWalk.i64_in _ (by omega)
        have hsb := HSB2.out
        have hsd : -2000 ≤ sumD (((hksG 0 L).drop f).take j) ∧ sumD (((hksG 0 L).drop f).take j) ≤ 2000 := by
          have h1 := sumD_cut L f j; have h2 := oldG_mono L (i := f) (j := u) (by omega); have h3 := oldG_mono L (i := f + j) (j := u) (by omega); have h4 := newG_mono L (i := f) (j := L.length) (by omega); have h5 := newG_mono L (i := f + j) (j := L.length) (by omega); have h6 := HXU.out; have h7 := HNW.out
          rw [List.take_length] at h4 h5
          omega
        have hw7 : IntKind.i64.wrap ((N2 : Int) - O2) = (N2 : Int) - O2 := IntWalk.i64_in _ (by omega)
        have hw8 : IntKind.i64.wrap (sh + sumD (((hksG 0 L).drop f).take j) + ((N2 : Int) - O2)) = sh + sumD (((hksG 0 L).drop f).take j) + ((N2 : Int) - O2) := IntWalk.i64_in _ (by omega)
        gi_wp2
        have kM := HZ.out.1.setSh (sh + sumD (((hksG 0 L).drop f).take j) + ((N2 : Int) - O2))
        have HK2 := Lib.hid kM
        clear h0 h1 h2 cs fs kM hw6 hw7 hw8 hsb hsd HZ
        gi_wp2
        go_roundw
        case rel =>
          have e1 : sh + sumD (((hksG 0 L).drop f).take j) + ((N2 : Int) - O2) = sh + sumD (((hksG 0 L).drop f).take (j + 1)) := by
            rw [HTK.out, sumD_app]; have h1 := YO.out; have h2 := YN.out; simp only [sumD]; omega
          refine ⟨j + 1, _, by omega, by go_num, ?_, by rw [← e1]; exact HK2.out⟩
          rw [HTK.out, lastE_snoc]
          have h1 := HH.out; have h2 := YO.out
          exact congrArg (Value.int .i64) (by simp only; omega)
        case measure => simp [intOf]; omega
      · have hju : j = u - f := by omega
        subst hju
        obtain ⟨P, hP⟩ : ∃ P, lastE at0 (((hksG 0 L).drop f).take (u - f)) = P := ⟨_, rfl⟩
        have hPv := lastE_dt (L := L) (f := f) (j := u - f) at0 (by omega) (by omega)
        rw [show f + (u - f) = u by omega, hP, HXU.out] at hPv
        have hEv := HEE.out
        have hPE : P ≤ E := by omega
        have hEn : E ≤ n := by omega
        obtain ⟨gl, hgl⟩ : ∃ gl, ((oldG L ++ t).drop P).take (E - P) = gl := ⟨_, rfl⟩
        have hal := HAL.out
        have hgll : gl.length = E - P := by rw [← hgl, List.length_take, List.length_drop, List.length_append]; omega
        have hgsz : ∀ s ∈ gl, s.size ≤ 100000 := fun s hs => HSA.out s (List.mem_of_mem_drop (List.mem_of_mem_take (hgl ▸ hs)))
        have hbs : ∀ x ∈ (preB (oldG L ++ t) at0 (((hksG 0 L).drop f).take (u - f))), x.s.size ≤ 100000 := preB_small HSA.out _ _ (fun h hh => by
          have := hksG_mem L 0 h (List.mem_of_mem_drop (List.mem_of_mem_take hh))
          exact ⟨fun s hs => HSA.out s (List.mem_append_left _ (this.1 s hs)), fun s hs => HSB.out s (this.2 s hs)⟩)
        have hpl := preB_len (oldG L ++ t) L f at0 (u - f) (by omega)
        rw [show f + (u - f) = u by omega, HXU.out] at hpl
        have hnu := newG_mono L (i := u) (j := L.length) (by omega)
        rw [List.take_length] at hnu
        have hnw := HNW.out
        have hbl : (preB (oldG L ++ t) at0 (((hksG 0 L).drop f).take (u - f))).length + (E - P) ≤ 3000 := by omega
        obtain ⟨lA, lc, rfl⟩ := own_shp HGM.out.row
        have hEr := HGM.out.ext
        have hEa := EA.out.trans hEr
        obtain ⟨A1, hA1⟩ : ∃ A', (if c = P then A else A.map (fun x => x.add P)) = A' := ⟨_, rfl⟩
        have hgs := strs_cut (HA.out.ext hEa) hnc (lo := P) (k := E - P) (by omega) hA1
        rw [hgl] at hgs
        have hEc : E ≤ c := by omega
        obtain ⟨nb2, hnb2⟩ : ∃ nb2, ((preB (oldG L ++ t) at0 (((hksG 0 L).drop f).take (u - f))) ++ tg .ctx gl).length = nb2 := ⟨_, rfl⟩
        have HNB2 := Lib.hid hnb2
        have HGLL := Lib.hid hgll; have HGSZ := Lib.hid hgsz; have HPV := Lib.hid hPv; have HGL := Lib.hid hgl; have HBL := Lib.hid hbl; have HBS := Lib.hid hbs; have HPL := Lib.hid hpl
        have HGS := Lib.hid (fun wx (h : Ext wA wx) => by
          have h2 := strs_cut (HA.out.ext (EA.out.trans h)) hnc (lo := P) (k := E - P) (by omega) hA1
          rw [hgl] at h2
          exact (h2 : Strs wx A1 (E - P) gl))
        rw [hP]
        clear hgs hEr hEa hgll hgsz hbs hpl hnu hnw hbl hEv hPv hal hgl hP hnb2
        gi_wp2
        refine wpIn_region_Y 9 (fun wx => Blk wx zb (bo at0 E ((at0 : Int) + sh) 0 (.slice lA (preB (oldG L ++ t) at0 (((hksG 0 L).drop f).take (u - f))).length lc)) ∧ Blk wx B0 (.cells #[.slice A n c] 22)) (fun wx => GMem wA W z10 (z10 + 1) (z10 + 4) v vs (blksV (oldG L ++ t) cx 0 (pre.map (cutH (hksG 0 L)))) zb at0 E ((at0 : Int) + sh) 0 (preB (oldG L ++ t) at0 (((hksG 0 L).drop f).take (u - f))) (.slice lA (preB (oldG L ++ t) at0 (((hksG 0 L).drop f).take (u - f))).length lc) (.slice lA (preB (oldG L ++ t) at0 (((hksG 0 L).drop f).take (u - f))).length lc) (sh + sumD (((hksG 0 L).drop f).take (u - f))) wx) (by kernel_rfl) (by kernel_rfl) (fun ⟨_, _, h⟩ => h) (HGM.out.e (Ext.refl _).drew) (wpY_takes (by kernel_rfl) (fun _ d _ _ _ h => by cases d <;> exact h) (fun _ _ e h => h.e e) (fun _ h => ⟨h.blk, A3.out.ext h.ext⟩) (fuel := 4) [0, 1, 2, 3, 4, 5] _ _ (Waited.start _) (by kernel_rfl) (by kernel_rfl) (by kernel_rfl) ?_)
        iterate 6
          refine wpTk_want rfl (Eq.refl true) ?_
          apply Exists.intro
          refine ⟨fun wx hx => ?_, ?_⟩
          · have d4 : wx.cell? ⟨zb, 4, none⟩ = some (.slice lA (preB (oldG L ++ t) at0 (((hksG 0 L).drop f).take (u - f))).length lc) := hx.1.cell 4
            have da : wx.cell? ⟨B0, 0, none⟩ = some (.slice A n c) := hx.2.cell 0
            clear hx
            go_simp
            with_reducible exact gives_ok _ _ _
          simp only [Act.put, List.setIfInBounds_toArray, List.set_cons_zero, List.set_cons_succ]
        refine wpTk_nil ?_
        refine wpY_one 6 (by kernel_rfl) rfl rfl (fun wz hz K hK => ?_)
        have hz' := Lib.hid hz
        clear hz
        go_simp
        refine (signed_any .ctx ⟨#[32]⟩ rfl A1 (E - P) (c - P) gl wz (HGS.out wz hz'.out.ext) (by omega) HGSZ.out).mono ?_
        rintro r w5 ⟨hE5, v5, rfl, ho5⟩
        have hs9 : (gl.map fun s => lnS ⟨.ctx, s⟩).length = E - P := by rw [List.length_map]; exact HGLL.out
        rw [← hs9] at ho5
        obtain ⟨A6, c6, hv5, hc5, hs5⟩ := own_strs ho5 (fun s hs => by obtain ⟨y, hy, rfl⟩ := List.mem_map.1 hs; rw [lnS_size]; have := HGSZ.out y hy; show y.size + 1 ≤ _; unfold Reach; omega)
        rw [hs9] at hv5 hs5
        subst hv5
        refine hK _ _ ⟨(fun wx => GMem wA W z10 (z10 + 1) (z10 + 4) v vs (blksV (oldG L ++ t) cx 0 (pre.map (cutH (hksG 0 L)))) zb at0 E ((at0 : Int) + sh) 0 (preB (oldG L ++ t) at0 (((hksG 0 L).drop f).take (u - f))) (.slice lA (preB (oldG L ++ t) at0 (((hksG 0 L).drop f).take (u - f))).length lc) (.slice lA (preB (oldG L ++ t) at0 (((hksG 0 L).drop f).take (u - f))).length lc) (sh + sumD (((hksG 0 L).drop f).take (u - f))) wx ∧ Strs wx A6 (E - P) (gl.map fun s => lnS ⟨.ctx, s⟩)), (fun _ _ e h => ⟨h.1.e e, h.2.ext e⟩), .inr fun _ h => ⟨h.1.blk, A3.out.ext h.1.ext⟩, ⟨hz'.out.e hE5, hs5⟩, ?_⟩
        clear hK K hz' hE5 ho5 hs5 hc5 hs9 w5 wz
        obtain ⟨snf, j1, j2, j3, j4⟩ := info_of infoS
        refine wpY_one 7 (by kernel_rfl) rfl rfl (fun wz hz K hK => ?_)
        have hbl := HBL.out
        refine wp_append (.tmp 110) (.tmp 115) 22 rfl (z10 + 4) 9 snf _ 1 16 underSs j1 j2 j3 j4 rfl (by decide) (.slice lA (preB (oldG L ++ t) at0 (((hksG 0 L).drop f).take (u - f))).length lc) (preB (oldG L ++ t) at0 (((hksG 0 L).drop f).take (u - f))).length (((preB (oldG L ++ t) at0 (((hksG 0 L).drop f).take (u - f))).map lnS).map Value.string) A6 (E - P) c6 ((gl.map fun s => lnS ⟨.ctx, s⟩).map Value.string) rfl rfl (by simp [HGLL.out]) (one_str _) (by simp only [maxLen]; omega) (by omega) hz.1.row hz.2.2.2 (by have h1 := hz.1.sizes; have h2 := hz.1.low; omega) (fun v7 wy hown hgr hbb => ?_)
        have hown' : wy.ownsRow (z10 + 4) 9 1 v7 ((preB (oldG L ++ t) at0 (((hksG 0 L).drop f).take (u - f))) ++ tg .ctx gl).length ((((preB (oldG L ++ t) at0 (((hksG 0 L).drop f).take (u - f))) ++ tg .ctx gl).map lnS).map Value.string) := by
          simp only [List.map_append, List.length_append, tg_lns, tg_len, HGLL.out]
          exact hown
        obtain ⟨lA2, lc2, hv7⟩ := own_shp hown'
        rw [HNB2.out] at hv7
        subst hv7
        have kM := hz.1.grow hgr hown' hbb
        simp only [Act.put, List.setIfInBounds_toArray, List.set_cons_zero, List.set_cons_succ]
        refine hK _ _ ⟨(fun wx => GMem wA W z10 (z10 + 1) (z10 + 4) v vs (blksV (oldG L ++ t) cx 0 (pre.map (cutH (hksG 0 L)))) zb at0 E ((at0 : Int) + sh) 0 ((preB (oldG L ++ t) at0 (((hksG 0 L).drop f).take (u - f))) ++ tg .ctx gl) (.slice lA (preB (oldG L ++ t) at0 (((hksG 0 L).drop f).take (u - f))).length lc) (.slice lA2 nb2 lc2) (sh + sumD (((hksG 0 L).drop f).take (u - f))) wx), (fun _ _ e h => h.e e), .inr fun _ h => ⟨h.blk, A3.out.ext h.ext⟩, kM, ?_⟩
        clear kM hown hown' hgr hbb hK K hz wz wy hbl
        refine wpY_one 8 (by kernel_rfl) rfl rfl (fun wz hz K hK => ?_)
        have hz' := Lib.hid hz
        clear hz
        go_simp
        refine hK _ _ ⟨(fun wx => GMem wA W z10 (z10 + 1) (z10 + 4) v vs (blksV (oldG L ++ t) cx 0 (pre.map (cutH (hksG 0 L)))) zb at0 E ((at0 : Int) + sh) 0 ((preB (oldG L ++ t) at0 (((hksG 0 L).drop f).take (u - f))) ++ tg .ctx gl) (.slice lA (preB (oldG L ++ t) at0 (((hksG 0 L).drop f).take (u - f))).length lc) (.slice lA2 nb2 lc2) (sh + sumD (((hksG 0 L).drop f).take (u - f))) wx), (fun _ _ e h => h.e e), .inr fun _ h => ⟨h.blk, A3.out.ext h.ext⟩, hz'.out, ?_⟩
        clear hK K hz' wz
        refine wpY_one 9 (by kernel_rfl) rfl rfl (fun wz hz K hK => ?_)
        have d4 : wz.cell? ⟨zb, 4, none⟩ = some (.slice lA (preB (oldG L ++ t) at0 (((hksG 0 L).drop f).take (u - f))).length lc) := hz.blk.cell 4
        have f4 := hz.blk.free 4
        have kM := hz.setL hz.row hz.apart hz.fresh
        clear hz
        go_simp
        refine hK _ _ ⟨(fun wx => GMem wA W z10 (z10 + 1) (z10 + 4) v vs (blksV (oldG L ++ t) cx 0 (pre.map (cutH (hksG 0 L)))) zb at0 E ((at0 : Int) + sh) 0 ((preB (oldG L ++ t) at0 (((hksG 0 L).drop f).take (u - f))) ++ tg .ctx gl) (.slice lA2 nb2 lc2) (.slice lA2 nb2 lc2) (sh + sumD (((hksG 0 L).drop f).take (u - f))) wx), (fun _ _ e h => h.e e), .inl (by kernel_rfl), kM, ?_⟩
        clear kM hK K d4 f4 wz
        refine wpY_done (by kernel_rfl) (fun wz hz => ?_) _
        have HZ := Lib.hid hz
        have d0 : wz.cell? ⟨zb, 0, none⟩ = some (.int .i64 at0) := hz.blk.cell 0
        have d1 : wz.cell? ⟨zb, 1, none⟩ = some (.int .i64 ((E : Int) - at0)) := hz.blk.cell 1
        have d2 : wz.cell? ⟨zb, 2, none⟩ = some (.int .i64 ((at0 : Int) + sh)) := hz.blk.cell 2
        have d3 : wz.cell? ⟨zb, 3, none⟩ = some (.int .i64 0) := hz.blk.cell 3
        have f3 := hz.blk.free 3
        have cs : wz.cell? ⟨z10 + 1, 0, none⟩ = some (.int .i64 (sh + sumD (((hksG 0 L).drop f).take (u - f)))) := hz.q.s.cell 0
        obtain ⟨X, hX⟩ : ∃ X, (sh + sumD (((hksG 0 L).drop f).take (u - f))) = X := ⟨_, rfl⟩
        have hXb : -3000 ≤ X ∧ X ≤ 3000 := by
          have hsb := HSB2.out
          have h1 := sumD_cut L f (u - f); have h2 := oldG_mono L (i := f) (j := u) (by omega); have h4 := newG_mono L (i := f) (j := L.length) (by omega); have h5 := newG_mono L (i := u) (j := L.length) (by omega); have h6 := HXU.out; have h7 := HNW.out
          rw [show f + (u - f) = u by omega] at h1
          rw [List.take_length] at h4 h5
          omega
        have hsb := HSB2.out
        rw [hX] at cs hz
        have HX := Lib.hid hX
        have kM := hz.setN ((at0 : Int) + ((E : Int) - at0) + X - ((at0 : Int) + sh))
        obtain ⟨W22, hW22⟩ : ∃ W22, wz.setCell ⟨zb, 3, none⟩ (.int .i64 ((at0 : Int) + ((E : Int) - at0) + X - ((at0 : Int) + sh))) = W22 := ⟨_, rfl⟩
        rw [hW22] at kM
        have KM := Lib.hid kM
        have o0 : W22.cell? ⟨z10, 0, none⟩ = some v := kM.q.o.cell 0
        have fo := kM.q.o.free 0
        have g0 : W22.cell? ⟨zb, 0, none⟩ = some (.int .i64 at0) := kM.blk.cell 0
        have g1 : W22.cell? ⟨zb, 1, none⟩ = some (.int .i64 ((E : Int) - at0)) := kM.blk.cell 1
        have g2 : W22.cell? ⟨zb, 2, none⟩ = some (.int .i64 ((at0 : Int) + sh)) := kM.blk.cell 2
        have g3 : W22.cell? ⟨zb, 3, none⟩ = some (.int .i64 ((at0 : Int) + ((E : Int) - at0) + X - ((at0 : Int) + sh))) := kM.blk.cell 3
        have g4 : W22.cell? ⟨zb, 4, none⟩ = some (.slice lA2 nb2 lc2) := kM.blk.cell 4
        obtain ⟨bnf, i1, i2, i3, i4⟩ := info_of infoBk
        have I1 := Lib.hid i1; have I2 := Lib.hid i2; have I3 := Lib.hid i3; have I4 := Lib.hid i4
        obtain ⟨outV, hout⟩ : ∃ o, blksV (oldG L ++ t) cx 0 (pre.map (cutH (hksG 0 L))) = o := ⟨_, rfl⟩
        have hol : outV.length ≤ 1000 := by
          rw [← hout]
          have h1 := blksV_len (oldG L ++ t) cx (pre.map (cutH (hksG 0 L))) 0
          have h2 := grpI_len cx (hksG 0 L) 0 0
          have h3 := HPX.out.length_le
          rw [hksG_len] at h2
          simp only [List.length_append, List.length_map, List.length_cons, List.length_nil] at h1 h3
          omega
        rw [hout] at KM
        have HOUT := Lib.hid hout
        clear hX hz kM i1 i2 i3 i4 hout
        gi_wp2_with (gi_at_builtin; refine wpListIn_append_size2 rfl (.tmp 129) (.tmp 131) 44 rfl (z10 + 4) 80 bnf _ 5 56 underBk I1.out I2.out I3.out I4.out rfl (by decide) v outV.length (bcs outV vs) (some ⟨W22.heap.size, 0, none⟩) 1 1 [.int .i64 at0, .int .i64 ((E : Int) - at0), .int .i64 ((at0 : Int) + sh), .int .i64 ((at0 : Int) + ((E : Int) - at0) + X - ((at0 : Int) + sh)), .slice lA2 nb2 lc2] rfl rfl rfl (by intro u hu; simp only [List.mem_cons, List.not_mem_nil, or_false] at hu; rcases hu with rfl | rfl | rfl | rfl | rfl <;> rfl) (by simp only [maxLen]; omega) (by omega) (own_stab3 ((Ext.refl W22).alloc _) KM.out.q.own) (Cells.new W22 _ _ rfl) (by have h1 := KM.out.sizes; have h2 := KM.out.low; simp; omega) ?_; intro v2 w2 hown2 hg2 hb2; have kB := (KM.out.e ((Ext.refl W22).alloc (.cells #[.int .i64 at0, .int .i64 ((E : Int) - at0), .int .i64 ((at0 : Int) + sh), .int .i64 ((at0 : Int) + ((E : Int) - at0) + X - ((at0 : Int) + sh)), .slice lA2 nb2 lc2] 80))).outB hg2; have o9 : w2.cell? ⟨z10, 0, none⟩ = some v := kB.cell 0; have f9 := kB.free 0; obtain ⟨q9, k9, rfl⟩ := ownsRow_succ hown2; have HG2 := Lib.hid hg2; have HO2 := Lib.hid hown2; have HB2 := Lib.hid hb2; clear hg2 hown2 hb2 kB)
        clear o0 fo g0 g1 g2 g3 g4 o9 f9
        have hlt9 := hlt
        obtain ⟨h9, r9, hc9, hb9⟩ := blk_is (oldG L ++ t) (cx := cx) (sh := sh) (E := E) hlt9 (by omega) HP0.out HF.out HXU.out HAT0.out (by rw [List.length_append, HAL.out]; try exact HEE.out)
        have hsc := sumD_cut L f (u - f)
        rw [show f + (u - f) = u by omega, HXU.out] at hsc
        have hX9 := HX.out; have hSV := HSV.out; have hF := HF.out; have hat := HAT0.out; have hEE := HEE.out
        have hnm := newG_mono L (i := f + 1) (j := u) (by omega)
        have hN0 := HN0.out
        have hP0 := HP0.out
        have hpos : 0 ≤ (at0 : Int) + sh := by
          rcases HG.out.wide with e | e
          · subst e
            simp [oldG, newG] at hSV
            omega
          · have := e p0 hP0
            omega
        have hnl0 : 0 ≤ (E : Int) - at0 + sumD (((hksG 0 L).drop f).take (u - f)) := by omega
        have hmem := KM.out.e ((Ext.refl W22).alloc (.cells #[.int .i64 at0, .int .i64 ((E : Int) - at0), .int .i64 ((at0 : Int) + sh), .int .i64 ((at0 : Int) + ((E : Int) - at0) + X - ((at0 : Int) + sh)), .slice lA2 nb2 lc2] 80))
        have hpush := hmem.push (bk := blkV (oldG L ++ t) cx sh h9 r9) (by rw [hb9]) (by rw [hb9]; simp only; omega) (by rw [hb9]; simp only; omega) (by rw [hb9]; simp only; omega) (by rw [hb9, HGL.out.symm, HPV.out]) HG2.out HO2.out HB2.out
        obtain ⟨q1, q2, q3, q4⟩ := hpush
        refine ⟨QS z10 (z10 + 1) (.slice (some ⟨q9, 0, none⟩) (outV.length + 1) k9), ?_, ?_, q1.size, _, vs ++ [.slice lA2 nb2 lc2], ?_, rfl, q3⟩
        · rw [HS.out]; exact q2
        · rw [HS.out]; exact q4
        · have e1 : (pre ++ [(f, u)]).map (cutH (hksG 0 L)) = pre.map (cutH (hksG 0 L)) ++ [h9 :: r9] := by rw [List.map_append, List.map_singleton, hc9]
          rw [e1, blksV_snoc _ _ _ _ _ _ (grpI_ne ((List.prefix_append _ _).trans HPX.out)), shT_snoc, HSH.out, HOUT.out, ← hc9]
          have e2 : sh + sumD (cutH (hksG 0 L) (f, u)) = X := hX9
          rw [e2]
          exact q1
end Go.Proofs.YtmmcjcaccicheaaGreatDoor

/- What is known of a world: a list of blocks; contracts of Commute and SameHunk in the form that straight code wants. -/
import Derived.Test.YtilogolnoifigaaAwake
import Derived.Test.YtilogolnoifigaaPlain
namespace Go.Proofs.Ytilogolnoifigaa
open Go.RowKit

/-- From w0 on nothing old has turned, and the blocks of L are known. -/
def Know (w0 : World) (L : List (Nat × Obj)) (wx : World) : Prop := Ext w0 wx ∧ ∀ p ∈ L, Blk wx p.1 p.2
section
variable {w0 wx wy : World} {L : List (Nat × Obj)}
theorem Know.start (w : World) : Know w [] w := ⟨Ext.refl w, by simp⟩
theorem Know.ext (h : Know w0 L wx) (e : Ext wx wy) : Know w0 L wy := ⟨h.1.trans e, fun p hp => (h.2 p hp).ext e⟩
theorem Know.new (h : Know w0 L wx) (o : Obj) {g : Nat} (hg : g = wx.heap.size) : Know w0 ((g, o) :: L) (wx.alloc o) :=
  ⟨h.1.alloc o, fun p hp => by
    rcases List.mem_cons.1 hp with rfl | hp
    · exact Blk.new wx o hg
    · exact (h.2 p hp).alloc o⟩
theorem Know.drew (h : Know w0 L wx) : Know w0 L wx.drew := h.ext (Ext.refl wx).drew
theorem Know.stab (w0 : World) (L : List (Nat × Obj)) : Stab (Know w0 L) := fun _ _ e h => h.ext e
theorem Know.at (h : Know w0 L wx) (i : Nat) {g : Nat} {o : Obj} (hi : nth L i = some (g, o)) : Blk wx g o := h.2 (g, o) (List.mem_of_getElem? (by rw [← nth_eq]; exact hi))
theorem Know.lt (h : Know w0 L wx) (i : Nat) {g : Nat} {o : Obj} (hi : nth L i = some (g, o)) : g < wx.heap.size := (h.at i hi).lt
/-- A store of three cells into a block that L does not name. -/
theorem Know.set3 (h : Know w0 L wx) {k : Nat} (hk : w0.heap.size ≤ k) (hL : ∀ p ∈ L, p.1 ≠ k) (x y z : Value) : Know w0 L (((wx.setCell ⟨k, 0, none⟩ x).setCell ⟨k, 1, none⟩ y).setCell ⟨k, 2, none⟩ z) :=
  ⟨h.1.set3 hk _ _ _, fun p hp => (h.2 p hp).far3 (hL p hp) _ _ _⟩
theorem Know.cons (h : Know w0 L wx) {g : Nat} {o : Obj} (hb : Blk wx g o) : Know w0 ((g, o) :: L) wx :=
  ⟨h.1, fun p hp => by
    rcases List.mem_cons.1 hp with rfl | hp
    · exact hb
    · exact h.2 p hp⟩
end

theorem commute_is {a b x y : Hk} {ok : Bool} (h : commuteT a b = (x, y, ok)) (w : World) (ha : a.small) (hb : b.small) :
    Calls Try.prog 12 #[a.val, b.val] w fun e w' => e = .returned (.tuple #[x.val, y.val, .bool ok]) ∧ Ext w w' := by
  have := commute_any a b w ha hb
  unfold commuteT at h
  split at h
  · rename_i h'; cases h; rw [h'] at this; exact this
  · rename_i h'; cases h; rw [h'] at this; exact this

theorem rh_like {w : World} {a h : Hk} {x : AH} (r : RH w a x) (k : a.like h) : RH w h { x with at_ := h.at_ } := by
  unfold Hk.like at k; rw [k]
  exact ⟨r.1, rfl, r.2.2.1, r.2.2.2⟩

/-- Hunks in a new block. -/
theorem rhs_blk {w : World} {g : Nat} {t : TypeId} {hs : List Hk} {xs : List AH} (h : Blk w g (.cells (hs.flatMap Hk.cells).toArray t (0, 0))) (hl : xs.length = hs.length) (hn : hs.length ≤ Reach)
    (hr : ∀ (k : Nat) (h : Hk) (x : AH), hs[k]? = some h → xs[k]? = some x → RH w h x) (c : Nat) : RHS w ⟨some ⟨g, 0, none⟩, hs.length, c, hs, xs⟩ := by
  refine ⟨hn, ⟨rfl, fun y hy => ?_, .inr ⟨g, 0, rfl, fun j u hu => ?_⟩⟩, hl, hr⟩
  · obtain ⟨k, hk⟩ := List.getElem?_of_mem hy
    have hkl : k < xs.length := by rw [hl]; exact (List.getElem?_eq_some_iff.1 hk).1
    exact (hr k y _ hk (List.getElem?_eq_getElem hkl)).1
  · rw [h.cell]; simpa using hu
theorem rhss_blk {w : World} {g : Nat} {t : TypeId} {L : List HS} (h : Blk w g (.cells (L.map fun s => Value.slice s.a s.n s.c).toArray t (0, 0))) (hn : L.length ≤ Reach) (hr : ∀ s ∈ L, RHS w s) : RHSs w (some ⟨g, 0, none⟩) L.length L := by
  refine ⟨hn, rfl, hr, .inr ⟨g, 0, rfl, fun j u hu => ?_⟩⟩
  rw [h.cell]; simpa using hu

theorem rel2 {w : World} {a b : Hk} {x y : AH} (ha : RH w a x) (hb : RH w b y) : ∀ (k : Nat) (h : Hk) (z : AH), [a, b][k]? = some h → [x, y][k]? = some z → RH w h z := by
  intro k h z h1 h2
  match k with
  | 0 => cases h1; cases h2; exact ha
  | 1 => cases h1; cases h2; exact hb
  | k + 2 => simp at h1
theorem rel3 {w : World} {a b c : Hk} {x y u : AH} (ha : RH w a x) (hb : RH w b y) (hc : RH w c u) : ∀ (k : Nat) (h : Hk) (z : AH), [a, b, c][k]? = some h → [x, y, u][k]? = some z → RH w h z := by
  intro k h z h1 h2
  match k with
  | 0 => cases h1; cases h2; exact ha
  | 1 => cases h1; cases h2; exact hb
  | 2 => cases h1; cases h2; exact hc
  | k + 3 => simp at h1

abbrev obj2 (a b : Hk) : Obj := .cells #[.int .i64 a.at_, .slice a.oa a.ol a.oc, .slice a.na a.nl a.nc, .int .i64 b.at_, .slice b.oa b.ol b.oc, .slice b.na b.nl b.nc] 24
abbrev obj3 (a b c : Hk) : Obj := .cells #[.int .i64 a.at_, .slice a.oa a.ol a.oc, .slice a.na a.nl a.nc, .int .i64 b.at_, .slice b.oa b.ol b.oc, .slice b.na b.nl b.nc, .int .i64 c.at_, .slice c.oa c.ol c.oc, .slice c.na c.nl c.nc] 24
abbrev objS (g n : Nat) : Obj := .cells #[.slice (some ⟨g, 0, none⟩) n n] 26

/-- 'great(lines, []api.Hunk{a, b})' in a world that has just laid the two slices. -/
theorem great2 (B : Option Addr) (m d : Nat) (a b : Hk) (x y : AH) (w : World) (hm : m ≤ Reach) (ha : RH w a x) (hb : RH w b y) (g g' : Nat) (hg : g = w.heap.size) (hg' : g' = w.heap.size + 1) :
    ∃ r : Bool, Calls Try.prog 10 #[.slice B m d, .slice (some ⟨g', 0, none⟩) 1 1] ((w.alloc (obj2 a b)).alloc (objS g 2)) fun e w' => e = .returned (.bool r) ∧ Ext w w' := by
  subst hg; subst hg'
  have hE := ((Ext.refl w).alloc (obj2 a b)).alloc (objS w.heap.size 2)
  have h1 := rhs_blk (hs := [a, b]) (xs := [x, y]) ((Blk.new w (obj2 a b) rfl).alloc (objS w.heap.size 2)) rfl (by show 2 ≤ Reach; decide) (rel2 (ha.ext hE) (hb.ext hE)) 2
  have h2 := rhss_blk (L := [⟨some ⟨w.heap.size, 0, none⟩, 2, 2, [a, b], [x, y]⟩]) (Blk.new (w.alloc (obj2 a b)) (objS w.heap.size 2) (g := w.heap.size + 1) (by simp)) (by show 1 ≤ Reach; decide) (by intro s hs; obtain rfl := List.mem_singleton.1 hs; exact h1)
  exact ⟨_, (great_any B m d _ 1 1 _ _ hm h2).mono fun e w' ⟨he, hx⟩ => ⟨he, hE.trans hx⟩⟩
theorem great3 (B : Option Addr) (m d : Nat) (a b c : Hk) (x y z : AH) (w : World) (hm : m ≤ Reach) (ha : RH w a x) (hb : RH w b y) (hc : RH w c z) (g g' : Nat) (hg : g = w.heap.size) (hg' : g' = w.heap.size + 1) :
    ∃ r : Bool, Calls Try.prog 10 #[.slice B m d, .slice (some ⟨g', 0, none⟩) 1 1] ((w.alloc (obj3 a b c)).alloc (objS g 3)) fun e w' => e = .returned (.bool r) ∧ Ext w w' := by
  subst hg; subst hg'
  have hE := ((Ext.refl w).alloc (obj3 a b c)).alloc (objS w.heap.size 3)
  have h1 := rhs_blk (hs := [a, b, c]) (xs := [x, y, z]) ((Blk.new w (obj3 a b c) rfl).alloc (objS w.heap.size 3)) rfl (by show 3 ≤ Reach; decide) (rel3 (ha.ext hE) (hb.ext hE) (hc.ext hE)) 3
  have h2 := rhss_blk (L := [⟨some ⟨w.heap.size, 0, none⟩, 3, 3, [a, b, c], [x, y, z]⟩]) (Blk.new (w.alloc (obj3 a b c)) (objS w.heap.size 3) (g := w.heap.size + 1) (by simp)) (by show 1 ≤ Reach; decide) (by intro s hs; obtain rfl := List.mem_singleton.1 hs; exact h1)
  exact ⟨_, (great_any B m d _ 1 1 _ _ hm h2).mono fun e w' ⟨he, hx⟩ => ⟨he, hE.trans hx⟩⟩
end Go.Proofs.Ytilogolnoifigaa

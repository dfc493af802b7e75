/- Contracts: follower, tables; Distance. -/
import Derived.Test.YtmmppfopokbcfaaMyTabs
namespace Go.Proofs.Ytmmppfopokbcfaa
open Go.RowKit
attribute [local go_sem] Oper.semAt_some

abbrev boxS (A : Option Addr) (n c : Nat) : Obj := .cells #[.slice A n c] 31
abbrev folF (g h : Nat) : Value := .func (.func 67) #[] #[.pointer (some ⟨g, 0, none⟩), .pointer (some ⟨h, 0, none⟩)]
abbrev boxF (g h : Nat) : Obj := .cells #[folF g h] 63
abbrev tabF (gf ga gb : Nat) : Value := .func (.func 66) #[] #[.pointer (some ⟨gf, 0, none⟩), .pointer (some ⟨ga, 0, none⟩), .pointer (some ⟨gb, 0, none⟩)]

theorem follower_any (A B : Option Addr) (n c m d : Nat) (w : World) :
    Calls Try.prog 45 #[.slice A n c, .slice B m d] w fun e w' => e = .returned (folF w.heap.size (w.heap.size + 1)) ∧ (w.alloc (boxS A n c)).alloc (boxS B m d) = w' := by
  go_enter Try.func45, Try.ntmps45
  go_wp2_with fail
  go_ret
  exact ⟨rfl, rfl⟩
theorem tables_any (A B : Option Addr) (n c m d : Nat) (g h : Nat) (w : World) :
    Calls Try.prog 44 #[.slice A n c, .slice B m d, folF g h] w fun e w' => e = .returned (tabF (w.heap.size + 2) w.heap.size (w.heap.size + 1)) ∧ ((w.alloc (boxS A n c)).alloc (boxS B m d)).alloc (boxF g h) = w' := by
  go_enter Try.func44, Try.ntmps44
  go_wp2_with fail
  go_ret
  exact ⟨rfl, rfl⟩

theorem encT_size (x : List Int) (vs : Array Value) (S : Nat → Prop) (W : World) (h : EncT x vs S W) : vs.size = 1 := by
  obtain ⟨g, v, rfl, _⟩ := h; rfl
theorem encT_lv (x : List Int) (vs : Array Value) (S : Nat → Prop) (W W' : World) (h : EncT x vs S W) (k : Lv S W W') : EncT x vs S W' := by
  obtain ⟨g, v, h1, h2, h3⟩ := h; exact ⟨g, v, h1, h2.lv k h3, h3⟩
theorem encT_less (x : List Int) (vs : Array Value) (S S' : Nat → Prop) (W : World) (h : EncT x vs S W) (k : ∀ g, S' g → S g) : EncT x vs S' W := by
  obtain ⟨g, v, h1, h2, h3⟩ := h; exact ⟨g, v, h1, h2, fun hs => h3 (k g hs)⟩

/-- The world in which the iterator begins: it knows what it wants, whatever the blocks of X (above w) become. -/
theorem kn_start {A B : Option Addr} {c d : Nat} {a b : Lns} {w w1 : World} (ha : Strs w A a.length a) (hb : Strs w B b.length b) (he : Ext w w1) {X : Nat → Prop} (hX : ∀ g, X g → w.heap.size ≤ g ∧ g < w1.heap.size) {w0 : World}
    (h0 : w0 = ((((w1.alloc (boxS A a.length c)).alloc (boxS B b.length d)).alloc (boxS A a.length c)).alloc (boxS B b.length d)).alloc (boxF w1.heap.size (w1.heap.size + 1))) :
    ∀ W, Lv X w0 W → Kn A B c d a b (w1.heap.size + 2) (w1.heap.size + 3) (w1.heap.size + 4) w1.heap.size (w1.heap.size + 1) W := by
  subst h0
  intro W hv
  have hE : Ext w (((((w1.alloc (boxS A a.length c)).alloc (boxS B b.length d)).alloc (boxS A a.length c)).alloc (boxS B b.length d)).alloc (boxF w1.heap.size (w1.heap.size + 1))) := ((((he.alloc _).alloc _).alloc _).alloc _).alloc _
  have hEW : Ext w W := hv.extBelow hE (fun g hg hx => absurd (hX g hx).1 (by omega))
  have b0 := ((((Blk.new w1 (boxS A a.length c) rfl).alloc (boxS B b.length d)).alloc (boxS A a.length c)).alloc (boxS B b.length d)).alloc (boxF w1.heap.size (w1.heap.size + 1))
  have b1 := (((Blk.new (w1.alloc (boxS A a.length c)) (boxS B b.length d) (g := w1.heap.size + 1) (by simp)).alloc (boxS A a.length c)).alloc (boxS B b.length d)).alloc (boxF w1.heap.size (w1.heap.size + 1))
  have b2 := ((Blk.new ((w1.alloc (boxS A a.length c)).alloc (boxS B b.length d)) (boxS A a.length c) (g := w1.heap.size + 2) (by simp)).alloc (boxS B b.length d)).alloc (boxF w1.heap.size (w1.heap.size + 1))
  have b3 := (Blk.new (((w1.alloc (boxS A a.length c)).alloc (boxS B b.length d)).alloc (boxS A a.length c)) (boxS B b.length d) (g := w1.heap.size + 3) (by simp)).alloc (boxF w1.heap.size (w1.heap.size + 1))
  have b4 := Blk.new ((((w1.alloc (boxS A a.length c)).alloc (boxS B b.length d)).alloc (boxS A a.length c)).alloc (boxS B b.length d)) (boxF w1.heap.size (w1.heap.size + 1)) (g := w1.heap.size + 4) (by simp)
  have nX : ∀ k, ¬ X (w1.heap.size + k) := fun k h => by have := (hX _ h).2; omega
  exact ⟨ha.ext hEW, hb.ext hEW, b2.lv hv (nX 2), b3.lv hv (nX 3), b4.lv hv (nX 4), b0.lv hv (nX 0), b1.lv hv (nX 1)⟩

theorem lv_firm {X : Nat → Prop} {w0 W W' : World} {n1 : Nat} (hn : w0.heap.size ≤ n1) (h : Lv X w0 W) (k : Lv (fun g => False ∨ (n1 ≤ g ∧ NC W g)) W W') : Lv X w0 W' :=
  h.trans k (fun g hg hs => by rcases hs with hs | hs; exact hs.elim; omega)

/-- D is the index of the last table. -/
def LastT (a b : Lns) (D : Nat) : Prop :=
  atV (tabV a b D) ((a.length : Int) - b.length) = some (a.length : Int) ∧ ∀ d, d < D → atV (tabV a b d) ((a.length : Int) - b.length) ≠ some (a.length : Int)

set_option maxRecDepth 100000 in
set_option maxHeartbeats 4000000 in
theorem distance_any (A B : Option Addr) (n c m cd : Nat) (a b : Lns) (w : World) (ha : Strs w A n a) (hb : Strs w B m b) (hn : n ≤ 130) (hm : m ≤ 130) (D : Nat) (hD : D ≤ 260) (hL : LastT a b D) :
    Calls Try.prog 19 #[.slice A n c, .slice B m cd] w fun e w' => e = .returned (.int .i64 D) ∧ Ext w w' := by
  obtain rfl : a.length = n := ha.1
  obtain rfl : b.length = m := hb.1
  have HA := Lib.hid ha; have HB := Lib.hid hb; have HL := Lib.hid hL; clear ha hb hL
  refine calls_marks Try.func19 rfl ?_
  simp only [Try.ntmps19, List.size_toArray, List.length_cons, List.length_nil, Nat.reduceAdd, Nat.reduceSub, Array.replicate_succ, Array.replicate_zero, List.push_toArray, List.append_toArray, List.nil_append, List.cons_append]
  go_wp2_with fail
  refine (follower_any _ _ _ _ _ _ _).mono ?_
  rintro e w1 ⟨rfl, rfl⟩
  go_wp2_with fail
  refine (tables_any _ _ _ _ _ _ _ _ _).mono ?_
  rintro e w1 ⟨rfl, rfl⟩
  go_wp2_with fail
  obtain ⟨w1, hw1⟩ : ∃ w1, w1 = w.alloc (.cells #[.int .i64 (-1)] 3) := ⟨_, rfl⟩
  have hs1 : w1.heap.size = w.heap.size + 1 := by rw [hw1]; simp
  obtain ⟨w0, hw0⟩ : ∃ w0, w0 = ((((w1.alloc (boxS A a.length c)).alloc (boxS B b.length cd)).alloc (boxS A a.length c)).alloc (boxS B b.length cd)).alloc (boxF w1.heap.size (w1.heap.size + 1)) := ⟨_, rfl⟩
  have hs0 : w0.heap.size = w.heap.size + 6 := by rw [hw0]; simp [hs1]
  have he1 : Ext w w1 := by rw [hw1]; exact (Ext.refl w).alloc _
  have he0 : Ext w1 w0 := by rw [hw0]; exact (((((Ext.refl w1).alloc _).alloc _).alloc _).alloc _).alloc _
  have hbx : Blk w0 w.heap.size (.cells #[.int .i64 (-1)] 3) := by
    refine Blk.ext ?_ he0
    rw [hw1]; exact Blk.new w _ rfl
  have hK := kn_start (X := fun g => g = w.heap.size) (d := cd) HA.out HB.out he1 (fun g hg => by subst hg; omega) hw0
  have hit := tables_iter A B c cd a b _ _ _ _ _ (fun g => g = w.heap.size) w0 hK hn hm D hD HL.out.1 HL.out.2
  have e0 : (((((w.alloc (Obj.cells #[Value.int IntKind.i64 (-1)] 3)).alloc (boxS A (List.length a) c)).alloc (boxS B (List.length b) cd)).alloc (boxS A (List.length a) c)).alloc (boxS B (List.length b) cd)).alloc (boxF (w.heap.size + 1) (w.heap.size + 1 + 1)) = w0 := by rw [hw0, hs1, hw1]
  rw [e0]
  rw [hs1] at hit
  have HBX := Lib.hid hbx; have HE1 := Lib.hid (he1.trans he0); have HS0 := Lib.hid hs0
  clear e0 hw0 hw1 hs1 he1 he0 hbx hK hs0
  refine wp_of_In (wpIn_range (gf := 66) rfl (enters_of Try.func66 (by kernel_rfl) rfl) hit encT_size encT_lv encT_less (fun g h => h.elim)
    (fun pre S W => (S = fun g => g = w.heap.size) ∧ Blk W w.heap.size (.cells #[.int .i64 ((pre.length : Int) - 1)] 3) ∧ Lv (fun g => g = w.heap.size) w0 W)
    (fun _ _ _ _ => False) ?hI (fun _ _ _ _ _ h _ => h.elim) (fun g => g = w.heap.size) ⟨rfl, by simpa using HBX.out, Lv.refl _ _⟩ (fun g h => by subst h; rw [HS0.out]; omega)
    (fun S W e h => ⟨Lv.of_ext e, h⟩)
    (fun vs => { tmps := (#[12].zip vs).foldl (fun t (p, v) => t.setIfInBounds p v) #[Value.slice A (List.length a) c, Value.slice B (List.length b) cd, undef, undef, Value.int IntKind.i64 0,
          Value.pointer (some { block := w.heap.size, off := 0 }), Value.slice A (List.length a) c,
          Value.slice B (List.length b) cd, Value.slice A (List.length a) c, Value.slice B (List.length b) cd,
          folF (w.heap.size + 1) (w.heap.size + 1 + 1),
          tabF (w.heap.size + 1 + 1 + 1 + 2) (w.heap.size + 1 + 1 + 1) (w.heap.size + 1 + 1 + 1 + 1), undef, undef,
          undef, undef], defers := [] }) ?assign ?body ?done (fun _ _ _ _ _ _ _ _ h _ => h.elim))
  case hI =>
    rintro pre S W W' ⟨h1, h2, h3⟩ hv
    have n1 : ¬ (False ∨ (w0.heap.size ≤ w.heap.size ∧ NC W w.heap.size)) := fun h => by rcases h with h | h; exact h; have := HS0.out; omega
    exact ⟨h1, h2.lv hv n1, lv_firm (Nat.le_refl _) h3 hv⟩
  case assign =>
    intro l x vs S W K henc hK
    exact wpIn_skip hK
  case body =>
    rintro l pre x vs S W ⟨rfl, hbk, hlv⟩ hle hpx ⟨g, v, rfl, ht, hng⟩
    have hlen : pre.length ≤ D := by have := hpx.length_le; simp [tabsV] at this; omega
    have c0 := hbk.cell 0; have f0 := hbk.free 0
    replace c0 : W.cell? ⟨w.heap.size, 0, none⟩ = some (.int .i64 ((pre.length : Int) - 1)) := c0
    gi_wp2
    refine ⟨_, Lv.setCell (S := fun g => g = w.heap.size) (Lv.refl _ W) (p := ⟨w.heap.size, 0, none⟩) (fun _ => rfl) _, fun g h => .inl h, fun g h => ?_, rfl, ?_, hlv.setCell (p := ⟨w.heap.size, 0, none⟩) (fun _ => rfl) _⟩
    · subst h; have := hbk.lt; simpa using this
    · have := hbk.put 0 (.int .i64 (pre.length : Int))
      simpa using this
  case done =>
    rintro D0 S W hD0 hnS ⟨rfl, hbk, hlv⟩ hdef
    have hlen : (tabsV a b (D + 1)).length = D + 1 := by simp [tabsV]
    rw [hlen] at hbk
    have c0 := hbk.cell 0
    replace c0 : W.cell? ⟨w.heap.size, 0, none⟩ = some (.int .i64 (D : Int)) := by rw [c0]; simp
    clear hbk hlen
    go_wp2_with fail
    refine ⟨by simp, .inl ⟨_, _, rfl, run_takeDeferred hdef, ?_⟩⟩
    refine ⟨_, results_tmp rfl _ _ _, rfl, ?_⟩
    have := hlv.putObj (l := D0) (fun h => absurd h (by omega)) (.deferred none)
    exact this.extBelow HE1.out (fun g hg h => by omega)
end Go.Proofs.Ytmmppfopokbcfaa

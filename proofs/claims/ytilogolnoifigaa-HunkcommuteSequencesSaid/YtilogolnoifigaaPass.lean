/- The contract of 'pass': one hunk past a sequence. -/
import Derived.Test.YtilogolnoifigaaConcat
namespace Go.Proofs.Ytilogolnoifigaa
open Go.RowKit

theorem flat3_set : ∀ (hs : List Hk) (k : Nat) (y : Hk), (((hs.flatMap Hk.cells).set (k * 3) (.int .i64 y.at_)).set (k * 3 + 1) (.slice y.oa y.ol y.oc)).set (k * 3 + 2) (.slice y.na y.nl y.nc) = (hs.set k y).flatMap Hk.cells
  | [], k, y => by simp
  | x :: t, 0, y => by simp [List.flatMap_cons, Hk.cells]
  | x :: t, k + 1, y => by
    have ih := flat3_set t k y
    rw [show (k + 1) * 3 = k * 3 + 3 by omega]
    simp only [List.flatMap_cons, List.set_cons_succ, Hk.cells, List.cons_append, List.nil_append]
    rw [← ih]

/-- A hunk stored into a row of one's own. -/
theorem own_put {w : World} {base g n cap : Nat} {hs : List Hk} (h : w.ownsRow base 24 3 (.slice (some ⟨g, 0, none⟩) n cap) n (hs.flatMap Hk.cells)) (k : Nat) (y : Hk) :
    (((w.setCell ⟨g, k * 3, none⟩ (.int .i64 y.at_)).setCell ⟨g, k * 3 + 1, none⟩ (.slice y.oa y.ol y.oc)).setCell ⟨g, k * 3 + 2, none⟩ (.slice y.na y.nl y.nc)).ownsRow base 24 3 (.slice (some ⟨g, 0, none⟩) n cap) n ((hs.set k y).flatMap Hk.cells) := by
  rw [← flat3_set]
  exact (((h.stored (k * 3) _).1.stored (k * 3 + 1) _).1.stored (k * 3 + 2) _).1
/-- A hunk in a row of one's own. -/
theorem own_get {w : World} {base g n cap : Nat} {hs : List Hk} (h : w.ownsRow base 24 3 (.slice (some ⟨g, 0, none⟩) n cap) n (hs.flatMap Hk.cells)) {k : Nat} {x : Hk} (hx : hs[k]? = some x) :
    w.cell? ⟨g, k * 3, none⟩ = some (.int .i64 x.at_) ∧ w.cell? ⟨g, k * 3 + 1, none⟩ = some (.slice x.oa x.ol x.oc) ∧ w.cell? ⟨g, k * 3 + 2, none⟩ = some (.slice x.na x.nl x.nc) := by
  have hl : hs.length = n := by have := h.1; rw [flat3_len _ (fun _ => rfl)] at this; omega
  have hk : k < n := by rw [← hl]; exact (List.getElem?_eq_some_iff.1 hx).1
  have g' := fun j hj => flat3_get Hk.cells (fun _ => rfl) hs k j _ hx hj
  refine ⟨?_, ?_, ?_⟩
  · rw [h.cellAt _ (by omega)]; simpa using g' 0 (by omega)
  · rw [h.cellAt _ (by omega)]; simpa using g' 1 (by omega)
  · rw [h.cellAt _ (by omega)]; simpa using g' 2 (by omega)
theorem own_free {w : World} {base g n cap : Nat} {hs : List Hk} (h : w.ownsRow base 24 3 (.slice (some ⟨g, 0, none⟩) n cap) n (hs.flatMap Hk.cells)) (k : Nat) :
    w.frozen? ⟨g, k * 3, none⟩ = false ∧ w.frozen? ⟨g, k * 3 + 1, none⟩ = false ∧ w.frozen? ⟨g, k * 3 + 2, none⟩ = false := ⟨h.frozenAt _, h.frozenAt _, h.frozenAt _⟩
theorem own_far {w : World} {base g n cap : Nat} {xs : List Value} {e : TypeId} {size : Nat} (h : w.ownsRow base e size (.slice (some ⟨g, 0, none⟩) n cap) n xs) {k : Nat} (hk : g ≠ k) (x y z : Value) :
    (((w.setCell ⟨k, 0, none⟩ x).setCell ⟨k, 1, none⟩ y).setCell ⟨k, 2, none⟩ z).ownsRow base e size (.slice (some ⟨g, 0, none⟩) n cap) n xs := by
  refine ⟨h.1, ?_⟩
  rcases h.2 with ⟨h0, _⟩ | ⟨g', cap', cur, h1, hb, hgg, rest⟩
  · cases h0
  · cases h1
    exact .inr ⟨g, cap, cur, rfl, hb, Blk.far3 (w := w) (g := g) hgg hk x y z, rest⟩

theorem own_low {w : World} {base n : Nat} {v : Value} {xs : List Value} {e : TypeId} {size : Nat} (h : w.ownsRow base e size v n xs) {k : Nat} (hk : k < base) (x y z : Value) :
    (((w.setCell ⟨k, 0, none⟩ x).setCell ⟨k, 1, none⟩ y).setCell ⟨k, 2, none⟩ z).ownsRow base e size v n xs := by
  refine ⟨h.1, ?_⟩
  rcases h.2 with h0 | ⟨g, cap, cur, rfl, hb, hgg, rest⟩
  · exact .inl h0
  · exact .inr ⟨g, cap, cur, rfl, hb, Blk.far3 (w := w) (g := g) hgg (by omega) x y z, rest⟩
theorem passV_none : ∀ (k : Nat) (hs : List Hk) (h : Hk), passV (hs.drop k) h = none → passV hs h = none
  | 0, _, _, e => by simpa using e
  | k + 1, [], _, e => by simpa using e
  | k + 1, x :: t, h, e => by
    have := passV_none k t h (by simpa using e)
    simp only [passV, this]
theorem commuteT_false {a b x y : Hk} (h : commuteT a b = (x, y, false)) : commuteV a b = none := by
  unfold commuteT at h
  split at h
  · assumption
  · cases h

theorem Blk.row3 {w : World} {g : Nat} {o : Obj} (h : Blk w g o) {k : Nat} (hk : g ≠ k) (a b c : Nat) (x y z : Value) : Blk (((w.setCell ⟨k, a, none⟩ x).setCell ⟨k, b, none⟩ y).setCell ⟨k, c, none⟩ z) g o := ((h.far (p := ⟨k, a, none⟩) hk x).far (p := ⟨k, b, none⟩) hk y).far (p := ⟨k, c, none⟩) hk z
theorem Know.row3 {w0 w : World} {L : List (Nat × Obj)} (h : Know w0 L w) {k : Nat} (hk : w0.heap.size ≤ k) (hL : ∀ p ∈ L, p.1 ≠ k) (a b c : Nat) (x y z : Value) : Know w0 L (((w.setCell ⟨k, a, none⟩ x).setCell ⟨k, b, none⟩ y).setCell ⟨k, c, none⟩ z) :=
  ⟨((h.1.setCell (p := ⟨k, a, none⟩) hk x).setCell (p := ⟨k, b, none⟩) hk y).setCell (p := ⟨k, c, none⟩) hk z, fun p hp => (h.2 p hp).row3 (hL p hp) _ _ _ _ _ _⟩
theorem Know.box {w0 w : World} {h1 p : Hk} {o : Obj} (h : Know w0 [(w0.heap.size + 1, o), (w0.heap.size, h1.obj)] w) :
    Know w0 [(w0.heap.size + 1, o), (w0.heap.size, p.obj)] (((w.setCell ⟨w0.heap.size, 0, none⟩ (.int .i64 p.at_)).setCell ⟨w0.heap.size, 1, none⟩ (.slice p.oa p.ol p.oc)).setCell ⟨w0.heap.size, 2, none⟩ (.slice p.na p.nl p.nc)) := by
  have b1 := (h.at 0 rfl).far3 (k := w0.heap.size) (by omega) (.int .i64 p.at_) (.slice p.oa p.ol p.oc) (.slice p.na p.nl p.nc)
  have b2 := (h.at 1 rfl).set3 (a := .int .i64 p.at_) (b := .slice p.oa p.ol p.oc) (c := .slice p.na p.nl p.nc)
  refine ⟨h.1.set3 (Nat.le_refl _) _ _ _, fun q hq => ?_⟩
  rcases List.mem_cons.1 hq with rfl | hq
  · exact b1
  · obtain rfl := List.mem_singleton.1 hq
    exact b2

/-- What is known in the loop: j hunks are still to be passed. -/
def PassAt (w : World) (hs : List Hk) (h : Hk) (base : Nat) (v : Value) (j : Nat) (wr : World) : Prop :=
  ∃ h1 t', passV (hs.drop j) h = some (h1, t') ∧ h1.small ∧ (∀ x ∈ t', x.small) ∧ Know w [(w.heap.size + 1, zeroObj), (w.heap.size, h1.obj)] wr ∧ wr.ownsRow base 24 3 v hs.length ((hs.take j ++ t').flatMap Hk.cells)

def Passed (r : Option (Hk × List Hk)) (base n : Nat) (e : Ending) (w' : World) : Prop := match r with
  | none => e = .returned (.tuple #[.slice none 0 0, Hk.zero.val, .bool false])
  | some (h', s') => ∃ v, w'.ownsRow base 24 3 v n (s'.flatMap Hk.cells) ∧ (∀ x ∈ s', x.small) ∧ h'.small ∧ e = .returned (.tuple #[v, h'.val, .bool true])

set_option maxHeartbeats 4000000 in
theorem pass_any {hs : List Hk} {h : Hk} (A : Option Addr) (n c : Nat) (w : World) (hh : Hks w A n hs) (hn : n ≤ 1000) (hsm : h.small) :
    Calls Try.prog 35 #[.slice A n c, h.val] w fun e w' => Ext w w' ∧ Passed (passV hs h) w.heap.size n e w' := by
  obtain rfl : hs.length = n := hh.1
  have HH := Lib.hid hh; have HS := Lib.hid hsm; clear hh hsm
  have K0 := Lib.hid (((Know.start w).new h.obj rfl).new zeroObj (g := w.heap.size + 1) (by simp))
  go_enter Try.func35, Try.ntmps35
  go_wp2_with fail
  refine (clone_any A hs.length c _ (HH.out.ext K0.out.1) hn).mono ?_
  rintro e w1 ⟨hE, v, rfl, ho⟩
  have K1 := Lib.hid (K0.out.ext hE); have HO := Lib.hid ho; clear hE ho
  obtain ⟨av, cv, rfl, hnc, -⟩ := own_hks HO.out HH.out.2.1
  go_wp2_with fail
  go_loopw [8] (fun i wr => ∃ j : Nat, j ≤ hs.length ∧ i = .int .i64 ((j : Int) - 1) ∧ PassAt w hs h (w.heap.size + 2) (.slice av hs.length cv) j wr) (fun i _ => (intOf i + 1).toNat)
  case atStart => exact ⟨hs.length, Nat.le_refl _, by go_num, h, [], by rw [List.drop_length]; rfl, HS.out, by simp, K1.out, by rw [List.take_length, List.append_nil]; exact own_base HO.out (by simp)⟩
  case round =>
    obtain ⟨j, hj, rfl, h1, t', hp, hs1, hs2, hK, ho⟩ := hrel
    have HP := Lib.hid hp; have S1 := Lib.hid hs1; have S2 := Lib.hid hs2; have K2 := Lib.hid hK; have HO2 := Lib.hid ho; clear hp hs1 hs2 hK ho
    -- REST
    by_cases hj0 : j = 0
    · subst hj0
      obtain ⟨c00, c01, c02⟩ := (K2.out.at 1 rfl).cells3
      obtain ⟨c10, c11, c12⟩ := (K2.out.at 0 rfl).cells3
      obtain ⟨f10, f11, f12⟩ := (K2.out.at 0 rfl).free3
      go_wp2_with fail
      go_region
      go_wp2_with fail
      refine bodyPost_ret (v := .tuple #[.slice av hs.length cv, h1.val, .bool true]) (by simp [results, Try.results35, go_sem, c10, c11, c12]) rfl ⟨(K2.out.1.drew).set3 (by omega) _ _ _, ?_⟩
      rw [show passV hs h = some (h1, t') from HP.out]
      have hfin := own_low (own_stab3 (Ext.refl _).drew HO2.out) (k := w.heap.size + 1) (by omega) (.int .i64 h1.at_) (.slice h1.oa h1.ol h1.oc) (.slice h1.na h1.nl h1.nc)
      rw [List.take_zero, List.nil_append] at hfin
      exact ⟨_, own_base hfin (by omega), S2.out, S1.out, rfl⟩
    · obtain ⟨k, rfl⟩ : ∃ k, j = k + 1 := ⟨j - 1, by omega⟩
      obtain ⟨s, hs0⟩ : ∃ s, hs[k]? = some s := ⟨_, List.getElem?_eq_getElem (by omega)⟩
      have hsx : (hs.take (k + 1) ++ t')[k]? = some s := by rw [List.getElem?_append_left (by rw [List.length_take]; omega), List.getElem?_take_of_lt (by omega)]; exact hs0
      have HSX := Lib.hid hsx; have HS0 := Lib.hid hs0; clear hsx hs0
      have hi : (((k + 1 : Nat) : Int) - 1) = k := by omega
      rw [hi]
      clear hi hj0
      obtain ⟨gv, rfl, hgv⟩ : ∃ gv, av = some ⟨gv, 0, none⟩ ∧ w.heap.size + 2 ≤ gv := by
        rcases HO2.out.2 with ⟨h0, h00⟩ | ⟨g, cap, cur, h0, hb, _⟩
        · omega
        · cases h0; exact ⟨g, rfl, hb⟩
      obtain ⟨p, q, ok, hc⟩ : ∃ p q ok, commuteT s h1 = (p, q, ok) := ⟨_, _, _, rfl⟩
      have HC := Lib.hid hc; clear hc
      have SS := Lib.hid (HH.out.2.1 s (List.mem_of_getElem? HS0.out))
      have hkn : (k : Int) < (hs.length : Int) := by omega
      go_wp2_with fail
      refine wp_region_X (T := fun wz => Know w [(w.heap.size + 1, zeroObj), (w.heap.size, h1.obj)] wz ∧ wz.ownsRow (w.heap.size + 2) 24 3 (.slice (some ⟨gv, 0, none⟩) hs.length cv) hs.length ((hs.take (k + 1) ++ t').flatMap Hk.cells)) (fun wz => Know w [(w.heap.size + 1, zeroObj), (w.heap.size, h1.obj)] wz ∧ wz.ownsRow (w.heap.size + 2) 24 3 (.slice (some ⟨gv, 0, none⟩) hs.length cv) hs.length ((hs.take (k + 1) ++ t').flatMap Hk.cells)) (by kernel_rfl) ⟨K2.out.drew, own_stab3 (Ext.refl _).drew HO2.out⟩ (wpX_takes (by kernel_rfl) (fun _ d _ _ _ h => by cases d <;> exact h) ((Know.stab _ _).and (fun _ _ e h => own_stab3 e h)) (fun _ h => h) (fuel := 5) [0,1,2,3,4,5,6,7,8,9] _ _ (by kernel_rfl) ?_)
      iterate 10
        refine wpTk_want rfl (Eq.refl true) ?_
        apply Exists.intro
        refine ⟨fun wx hx => ?_, ?_⟩
        · obtain ⟨d00, d01, d02⟩ := (hx.1.at 1 rfl).cells3
          obtain ⟨e00, e01, e02⟩ := own_get hx.2 HSX.out
          clear hx
          go_simp
          first
            | with_reducible exact gives_ok _ _ _
            | (have r := commute_is HC.out wx SS.out S1.out; with_reducible exact gives_call _ _ _ r)
        simp only [Act.put, List.setIfInBounds_toArray, List.set_cons_zero, List.set_cons_succ]
      refine wpTk_nil ?_
      refine wpX_alloc2 10 11 zeroObj (by kernel_rfl) (by kernel_rfl) (by kernel_rfl) (by decide) rfl rfl rfl rfl (by simp) (fun _ _ => by go_simp) (fun _ _ => by go_simp) ((Know.stab _ _).and (fun _ _ e h => own_stab3 e h)) (fun _ h => h) (fun g8 g9 wv hv hg8 hg9 hne => ?_)
      simp only [Act.put, List.setIfInBounds_toArray, List.set_cons_zero, List.set_cons_succ]
      have hw8 : w.heap.size ≤ g8 := Nat.le_trans hv.1.1.size hg8
      have hw9 : w.heap.size ≤ g9 := Nat.le_trans hv.1.1.size hg9
      have hL8 := fun p hp => Nat.ne_of_lt (Nat.lt_of_lt_of_le (hv.1.2 p hp).lt hg8)
      have hL9 := fun p hp => Nat.ne_of_lt (Nat.lt_of_lt_of_le (hv.1.2 p hp).lt hg9)
      have hv8 : gv ≠ g8 := Nat.ne_of_lt (Nat.lt_of_lt_of_le (hv.2.lt gv rfl).2 hg8)
      have hv9 : gv ≠ g9 := Nat.ne_of_lt (Nat.lt_of_lt_of_le (hv.2.lt gv rfl).2 hg9)
      have HN := Lib.hid (And.intro hw8 (And.intro hw9 (And.intro hL8 (And.intro hL9 hne))))
      have HN2 := Lib.hid (And.intro hv8 hv9)
      clear hw8 hw9 hL8 hL9 hne hv hg8 hg9 hv8 hv9
      refine wpX_one 12 (by kernel_rfl) rfl rfl (fun wy hy K hK => ?_)
      have HY := Lib.hid hy; clear hy
      obtain ⟨d00, d01, d02⟩ := HY.out.2.1.cells3
      obtain ⟨e00, e01, e02⟩ := HY.out.2.1.free3
      go_simp
      refine hK _ _ ⟨fun wz => (Know w [(w.heap.size + 1, zeroObj), (w.heap.size, h1.obj)] wz ∧ wz.ownsRow (w.heap.size + 2) 24 3 (.slice (some ⟨gv, 0, none⟩) hs.length cv) hs.length ((hs.take (k + 1) ++ t').flatMap Hk.cells)) ∧ Blk wz g8 p.obj ∧ Blk wz g9 zeroObj, ((Know.stab _ _).and (fun _ _ e h => own_stab3 e h)).and ((Stab.blk _ _).and (Stab.blk _ _)), fun _ h => h.1,
        ⟨⟨HY.out.1.1.set3 HN.out.1 HN.out.2.2.1 _ _ _, own_far HY.out.1.2 HN2.out.1 _ _ _⟩, HY.out.2.1.set3, HY.out.2.2.far3 HN.out.2.2.2.2.symm _ _ _⟩, ?_⟩
      clear hK K d00 d01 d02 e00 e01 e02 HY
      refine wpX_one 13 (by kernel_rfl) rfl rfl (fun wy hy K hK => ?_)
      have HY := Lib.hid hy; clear hy
      obtain ⟨d00, d01, d02⟩ := HY.out.2.2.cells3
      obtain ⟨e00, e01, e02⟩ := HY.out.2.2.free3
      go_simp
      refine hK _ _ ⟨fun wz => (Know w [(w.heap.size + 1, zeroObj), (w.heap.size, h1.obj)] wz ∧ wz.ownsRow (w.heap.size + 2) 24 3 (.slice (some ⟨gv, 0, none⟩) hs.length cv) hs.length ((hs.take (k + 1) ++ t').flatMap Hk.cells)) ∧ Blk wz g8 p.obj ∧ Blk wz g9 q.obj, ((Know.stab _ _).and (fun _ _ e h => own_stab3 e h)).and ((Stab.blk _ _).and (Stab.blk _ _)), fun _ h => h.1,
        ⟨⟨HY.out.1.1.set3 HN.out.2.1 HN.out.2.2.2.1 _ _ _, own_far HY.out.1.2 HN2.out.2 _ _ _⟩, HY.out.2.1.far3 HN.out.2.2.2.2 _ _ _, HY.out.2.2.set3⟩, ?_⟩
      clear hK K d00 d01 d02 e00 e01 e02 HY
      refine wpX_one 14 (by kernel_rfl) rfl rfl (fun wy hy K hK => ?_)
      go_simp
      refine hK _ _ ⟨fun wz => (Know w [(w.heap.size + 1, zeroObj), (w.heap.size, h1.obj)] wz ∧ wz.ownsRow (w.heap.size + 2) 24 3 (.slice (some ⟨gv, 0, none⟩) hs.length cv) hs.length ((hs.take (k + 1) ++ t').flatMap Hk.cells)) ∧ Blk wz g8 p.obj ∧ Blk wz g9 q.obj, ((Know.stab _ _).and (fun _ _ e h => own_stab3 e h)).and ((Stab.blk _ _).and (Stab.blk _ _)), fun _ h => h.1, hy, ?_⟩
      clear hK K hy
      refine wpX_done (by kernel_rfl) (fun wz hz => ?_) _
      have HZ := Lib.hid hz; clear hz
      clear K2 HO2
      cases ok
      case false =>
        obtain ⟨c10, c11, c12⟩ := (HZ.out.1.1.at 0 rfl).cells3
        obtain ⟨f10, f11, f12⟩ := (HZ.out.1.1.at 0 rfl).free3
        go_wp2_with fail
        refine bodyPost_ret (v := .tuple #[.slice none 0 0, Hk.zero.val, .bool false]) (by simp [results, Try.results35, go_sem, Hk.zero, c10, c11, c12]) rfl ⟨HZ.out.1.1.1.set3 (by omega) _ _ _, ?_⟩
        rw [passV_none k hs h (by rw [drop_of HS0.out]; simp only [passV, HP.out, commuteT_false HC.out])]
        exact rfl
      case true =>
        have n1 : w.heap.size ≠ g8 := HN.out.2.2.1 (w.heap.size, h1.obj) (by simp)
        have n2 : w.heap.size ≠ g9 := HN.out.2.2.2.1 (w.heap.size, h1.obj) (by simp)
        have NN := Lib.hid (And.intro n1 n2); clear n1 n2
        have hgL : ∀ (o1 o2 : Obj), ∀ p ∈ [(w.heap.size + 1, o1), (w.heap.size, o2)], p.1 ≠ gv := by
          intro o1 o2 p hp
          rcases List.mem_cons.1 hp with rfl | hp
          · show w.heap.size + 1 ≠ gv; omega
          · obtain rfl := List.mem_singleton.1 hp; show w.heap.size ≠ gv; omega
        have HGL := Lib.hid hgL; clear hgL
        have hsx2 : ((hs.take (k + 1) ++ t').set k q)[k]? = some q := by rw [List.getElem?_set_self]; exact (List.getElem?_eq_some_iff.1 HSX.out).1
        have HSX2 := Lib.hid hsx2; clear hsx2
        go_wp2_with fail
        refine wp_region_X (T := fun wz => Blk wz g8 p.obj ∧ Blk wz g9 q.obj) (fun wz => (Know w [(w.heap.size + 1, zeroObj), (w.heap.size, h1.obj)] wz ∧ wz.ownsRow (w.heap.size + 2) 24 3 (.slice (some ⟨gv, 0, none⟩) hs.length cv) hs.length ((hs.take (k + 1) ++ t').flatMap Hk.cells)) ∧ Blk wz g8 p.obj ∧ Blk wz g9 q.obj) (by kernel_rfl) ((((Know.stab _ _).and (fun _ _ e h => own_stab3 e h)).and ((Stab.blk _ _).and (Stab.blk _ _))) _ _ (Ext.refl _).drew HZ.out) (wpX_takes (by kernel_rfl) (fun _ d _ _ _ h => by cases d <;> exact h) (((Know.stab _ _).and (fun _ _ e h => own_stab3 e h)).and ((Stab.blk _ _).and (Stab.blk _ _))) (fun _ h => h.2) (fuel := 2) [0,1,2,3,4] _ _ (by kernel_rfl) ?_)
        iterate 5
          refine wpTk_want rfl (Eq.refl true) ?_
          apply Exists.intro
          refine ⟨fun wx hx => ?_, ?_⟩
          · obtain ⟨d00, d01, d02⟩ := hx.1.cells3
            obtain ⟨e00, e01, e02⟩ := hx.2.cells3
            clear hx
            go_simp
            with_reducible exact gives_ok _ _ _
          simp only [Act.put, List.setIfInBounds_toArray, List.set_cons_zero, List.set_cons_succ]
        refine wpTk_nil ?_
        refine wpX_one 5 (by kernel_rfl) rfl rfl (fun wx hx K hK => ?_)
        have HX := Lib.hid hx; clear hx
        obtain ⟨d00, d01, d02⟩ := own_get HX.out.1.2 HSX.out
        obtain ⟨e00, e01, e02⟩ := own_free HX.out.1.2 k
        go_simp
        refine hK _ _ ⟨(fun wz => (Know w [(w.heap.size + 1, zeroObj), (w.heap.size, h1.obj)] wz ∧ wz.ownsRow (w.heap.size + 2) 24 3 (.slice (some ⟨gv, 0, none⟩) hs.length cv) hs.length (((hs.take (k + 1) ++ t').set k q).flatMap Hk.cells)) ∧ Blk wz g8 p.obj ∧ Blk wz g9 q.obj), (((Know.stab _ _).and (fun _ _ e h => own_stab3 e h)).and ((Stab.blk _ _).and (Stab.blk _ _))), fun _ h => h.2, ⟨⟨HX.out.1.1.row3 (by omega) (HGL.out _ _) _ _ _ _ _ _, own_put HX.out.1.2 k q⟩, HX.out.2.1.row3 HN2.out.1.symm _ _ _ _ _ _, HX.out.2.2.row3 HN2.out.2.symm _ _ _ _ _ _⟩, ?_⟩
        clear hK K d00 d01 d02 e00 e01 e02 HX
        refine wpX_one 6 (by kernel_rfl) rfl rfl (fun wx hx K hK => ?_)
        have HX := Lib.hid hx; clear hx
        obtain ⟨d00, d01, d02⟩ := (HX.out.1.1.at 1 rfl).cells3
        obtain ⟨e00, e01, e02⟩ := (HX.out.1.1.at 1 rfl).free3
        go_simp
        refine hK _ _ ⟨(fun wz => (Know w [(w.heap.size + 1, zeroObj), (w.heap.size, p.obj)] wz ∧ wz.ownsRow (w.heap.size + 2) 24 3 (.slice (some ⟨gv, 0, none⟩) hs.length cv) hs.length (((hs.take (k + 1) ++ t').set k q).flatMap Hk.cells)) ∧ Blk wz g8 p.obj ∧ Blk wz g9 q.obj), (((Know.stab _ _).and (fun _ _ e h => own_stab3 e h)).and ((Stab.blk _ _).and (Stab.blk _ _))), fun _ h => h.2, ⟨⟨HX.out.1.1.box, own_low HX.out.1.2 (by omega) _ _ _⟩, HX.out.2.1.far3 NN.out.1.symm _ _ _, HX.out.2.2.far3 NN.out.2.symm _ _ _⟩, ?_⟩
        clear hK K d00 d01 d02 e00 e01 e02 HX
        refine wpX_done (by kernel_rfl) (fun wu hu => ?_) _
        have HU := Lib.hid hu; clear hu HZ
        go_wp2_with fail
        go_roundw
        case rel =>
          obtain ⟨z1, z2⟩ := commuteT_small HC.out SS.out S1.out
          refine ⟨k, by omega, by go_num, p, q :: t', ?_, z1, ?_, HU.out.1.1, ?_⟩
          · rw [drop_of HS0.out]
            exact passV_mk HP.out (commuteT_true HC.out)
          · intro x hx
            rcases List.mem_cons.1 hx with rfl | hx
            · exact z2
            · exact S2.out x hx
          · have := HU.out.1.2
            have hlen : (hs.take k).length = k := by rw [List.length_take]; omega
            rw [take_succ_of HS0.out, List.append_assoc, List.set_append_right _ _ (by omega), hlen, Nat.sub_self] at this
            simpa using this
        case measure =>
          simp [intOf]
          try omega
end Go.Proofs.Ytilogolnoifigaa

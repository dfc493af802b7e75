/- MyColl Reverse MyDiff: parts of the proof of TopDifferences, one text behind the other. No condition. -/
import Derived.Test.YtmmcjcaccicheaaGreatDoorT05
import Derived.Test.YtmmcjcaccicheaaGreatDoorT03
import Derived.RegionTactic
import Derived.ChangeAlike
/- Contracts: Collect of the tables; Certificate. -/
namespace Go.Proofs.YtmmcjcaccicheaaGreatDoor
open Go.RowKit
attribute [local go_sem] Oper.semAt_some

theorem own_lv {S : Nat → Prop} {base : Nat} {e : TypeId} {size : Nat} {v : Value} {n : Nat} {xs : List Value} {W W' : World} (h : W.ownsRow base e size v n xs) (k : Lv S W W') (hS : ∀ g, v.ownBlock = some g → ¬ S g) : W'.ownsRow base e size v n xs := by
  refine ⟨h.1, ?_⟩
  rcases h.2 with hn | ⟨g, cap, cur, rfl, hb, hgg, rest⟩
  · exact .inl hn
  · exact .inr ⟨g, cap, cur, rfl, hb, Blk.lv hgg k (hS g rfl), rest⟩
theorem own_blk {base : Nat} {e : TypeId} {size : Nat} {v : Value} {n : Nat} {xs : List Value} {W : World} (h : W.ownsRow base e size v n xs) {g : Nat} (hg : v.ownBlock = some g) : base ≤ g ∧ ∃ cur, Blk W g (.cells cur e (0, 0)) := by
  rcases h.2 with ⟨rfl, _⟩ | ⟨g', cap, cur, rfl, hb, hgg, rest⟩
  · cases hg
  · cases hg; exact ⟨hb, cur, hgg⟩
theorem blk_type {W : World} {g : Nat} {cs cs' : Array Value} {t t' : TypeId} {f f' : Nat × Nat} (h : Blk W g (.cells cs t f)) (h' : Blk W g (.cells cs' t' f')) : t = t' := by
  unfold Blk at h h'; rw [h] at h'; cases h'; rfl

/-- The values are the tables, each in a block of its own. -/
def Tabs (W : World) (vs : List Value) (ts : List (List Int)) : Prop := vs.length = ts.length ∧ ∀ (j : Nat) (v : Value) (t : List Int), vs[j]? = some v → ts[j]? = some t → ∃ g, TabAt W g v t
theorem Tabs.lv {S : Nat → Prop} {W W' : World} {vs : List Value} {ts : List (List Int)} (h : Tabs W vs ts) (k : Lv S W W') (hS : ∀ g cs f, S g → ¬ Blk W g (.cells cs 3 f)) : Tabs W' vs ts :=
  ⟨h.1, fun j v t h1 h2 => by
    obtain ⟨g, hg⟩ := h.2 j v t h1 h2
    refine ⟨g, hg.lv k (fun hs => ?_)⟩
    obtain ⟨c, cs, _, hb, _⟩ := hg
    exact hS g cs _ hs hb⟩
theorem Tabs.ext {W W' : World} {vs : List Value} {ts : List (List Int)} (h : Tabs W vs ts) (k : Ext W W') : Tabs W' vs ts := h.lv (Lv.of_ext (S := fun _ => False) k) (fun _ _ _ h => h.elim)

/-- What has been collected so far. -/
def ColI (s0 n1 : Nat) (tb te : TypeId) (w0 : World) (pre : List (List Int)) (S : Nat → Prop) (W : World) : Prop :=
  ∃ v vs, Blk W s0 (.cells #[v] tb (0, 0)) ∧ W.ownsRow n1 te 1 v pre.length vs ∧ Tabs W vs pre ∧ (S = fun g => g = s0 ∨ v.ownBlock = some g) ∧ Lv (fun g => g = s0) w0 W

section
variable {s0 n1 : Nat} {tb te : TypeId} {w0 : World}
theorem col_firm (hs : s0 < n1) (hn : w0.heap.size ≤ n1) : Firm (fun _ => False) n1 (ColI s0 n1 tb te w0) := by
  rintro pre S W W' ⟨v, vs, h1, h2, h3, h4, h5⟩ hv
  refine ⟨v, vs, h1.lv hv (fun h => ?_), own_lv h2 hv (fun g hg h => ?_), h3.lv hv (fun g cs f h hb => ?_), h4, lv_firm hn h5 hv⟩
  · rcases h with h | h
    · exact h
    · omega
  · rcases h with h | h
    · exact h
    · obtain ⟨_, cur, hb⟩ := own_blk h2 hg
      exact hb.nc h.2
  · rcases h with h | h
    · exact h
    · exact hb.nc h.2

theorem col_box (hs : s0 < n1) {n : Nat} {W W1 W2 : World} {v : Value} {vs : List Value} (h1 : Blk W s0 (.cells #[v] tb (0, 0))) (h2 : W.ownsRow n1 te 1 v n vs) (he : Ext W W1) (hgr : W1.grownBy W2 v.ownBlock) : Blk W2 s0 (.cells #[v] tb (0, 0)) :=
  (hgr.block s0 (h1.ext he).lt (fun hk => by have := (own_blk h2 hk.symm).1; omega)).trans (h1.ext he)
theorem col_step (hs : s0 < n1) (htb : tb ≠ 3) (hte : te ≠ 3) {pre : List (List Int)} {S : Nat → Prop} {W W1 W2 : World} {v v' u : Value} {vs : List Value} {t : List Int} {g : Nat}
    (h1 : Blk W s0 (.cells #[v] tb (0, 0))) (h2 : W.ownsRow n1 te 1 v pre.length vs) (h3 : Tabs W vs pre) (h4 : S = fun g => g = s0 ∨ v.ownBlock = some g) (h5 : Lv (fun g => g = s0) w0 W) (h6 : w0.heap.size ≤ n1)
    (ht : TabAt W g u t) (hn : ¬ S g) (he : Ext W W1) (hown : W2.ownsRow n1 te 1 v' (pre.length + 1) (vs ++ [u])) (hgr : W1.grownBy W2 v.ownBlock) (hbl : v'.ownBlock = v.ownBlock ∨ ∃ g, v'.ownBlock = some g ∧ W1.heap.size ≤ g) :
    Lv S W (W2.setCell ⟨s0, 0, none⟩ v') ∧ (∀ g, (g = s0 ∨ v'.ownBlock = some g) → S g ∨ W.heap.size ≤ g) ∧ (∀ g, (g = s0 ∨ v'.ownBlock = some g) → g < (W2.setCell ⟨s0, 0, none⟩ v').heap.size) ∧
      ColI s0 n1 tb te w0 (pre ++ [t]) (fun g => g = s0 ∨ v'.ownBlock = some g) (W2.setCell ⟨s0, 0, none⟩ v') := by
  have hl2 : Lv S W W2 := (Lv.of_ext he).grown hgr (fun k hk _ => by rw [h4]; exact .inr hk)
  have hl3 : Lv S W (W2.setCell ⟨s0, 0, none⟩ v') := hl2.setCell (p := ⟨s0, 0, none⟩) (fun _ => by rw [h4]; exact .inl rfl) v'
  have hb0 : Blk W2 s0 (.cells #[v] tb (0, 0)) := (hgr.block s0 (h1.ext he).lt (fun hk => by have := (own_blk h2 hk.symm).1; omega)).trans (h1.ext he)
  have hS : ∀ g cs f, S g → ¬ Blk W g (.cells cs 3 f) := by
    rintro g cs f hsg hb
    rw [h4] at hsg
    rcases hsg with rfl | hk
    · exact htb (blk_type h1 hb)
    · obtain ⟨_, cur, hb'⟩ := own_blk h2 hk
      exact hte (blk_type hb' hb)
  refine ⟨hl3, ?_, ?_, v', vs ++ [u], ?_, ?_, ?_, rfl, ?_⟩
  · rintro g (rfl | hk)
    · rw [h4]; exact .inl (.inl rfl)
    · rcases hbl with hb | ⟨g', hg', hle⟩
      · rw [h4]; exact .inl (.inr (hb ▸ hk))
      · rw [hg'] at hk; cases hk
        exact .inr (Nat.le_trans he.size hle)
  · rintro g (rfl | hk)
    · simpa using hb0.lt
    · obtain ⟨_, cur, hb'⟩ := own_blk hown hk
      simpa using hb'.lt
  · simpa using hb0.put 0 v'
  · rw [List.length_append]
    exact own_lv (S := fun g => g = s0) hown (Lv.setCell (S := fun g => g = s0) (Lv.refl _ _) (p := ⟨s0, 0, none⟩) (fun _ => rfl) v') (fun g hg he => by have := (own_blk hown hg).1; omega)
  · have h3' := h3.lv hl3 hS
    refine ⟨by simp [h3.1], fun j x y hx hy => ?_⟩
    rcases Nat.lt_or_ge j vs.length with hj | hj
    · rw [List.getElem?_append_left hj] at hx
      rw [List.getElem?_append_left (by rw [← h3.1]; exact hj)] at hy
      exact h3'.2 j x y hx hy
    · rw [List.getElem?_append_right hj] at hx
      rw [List.getElem?_append_right (by rw [← h3.1]; exact hj)] at hy
      obtain ⟨h7, h8⟩ : j - vs.length = 0 ∧ u = x := by
        rcases hq : j - vs.length with _ | q
        · rw [hq] at hx; exact ⟨rfl, by simpa using hx⟩
        · rw [hq] at hx; simp at hx
      rw [show j - pre.length = 0 by rw [← h3.1]; exact h7] at hy
      obtain rfl : t = y := by simpa using hy
      subst h8
      exact ⟨g, ht.lv hl3 hn⟩
  · refine (h5.trans hl3 (fun g hg hs' => ?_))
    rw [h4] at hs'
    rcases hs' with h | hk
    · exact h
    · have := (own_blk h2 hk).1; omega
end

theorem info48 : (Tryz.prog.info? 58).map (fun i => (i.zero, i.size, i.bytes)) = some (some (.slice none 0 0), 1, 24) := by kernel_rfl
theorem under48 : Tryz.prog.underlying 101 = some (.slice 58) := by kernel_rfl
theorem info47 : (Tryz.prog.info? 49).map (fun i => (i.zero, i.size, i.bytes)) = some (some (.slice none 0 0), 1, 24) := by kernel_rfl
theorem under33 : Tryz.prog.underlying 30 = some (.slice 49) := by kernel_rfl

set_option maxRecDepth 100000 in
set_option maxHeartbeats 4000000 in
theorem appendSeq_any (A B : Option Addr) (c cd : Nat) (a b : Lns) (w wA : World) (ha : Strs w A a.length a) (hb : Strs w B b.length b) (hn : a.length ≤ 130) (hm : b.length ≤ 130) (D : Nat) (hD : D ≤ 260) (hL : LastT a b D)
    (hw : wA = ((((w.alloc (boxS A a.length c)).alloc (boxS B b.length cd)).alloc (boxS A a.length c)).alloc (boxS B b.length cd)).alloc (boxF w.heap.size (w.heap.size + 1))) :
    Calls Tryz.prog 70 #[.slice none 0 0, tabF (w.heap.size + 4) (w.heap.size + 2) (w.heap.size + 3)] wA fun e w' => ∃ v vs, e = .returned v ∧ w'.ownsRow w.heap.size 58 1 v (D + 1) vs ∧ Tabs w' vs (tabsV a b (D + 1)) ∧ Ext w w' := by
  have HA := Lib.hid ha; have HB := Lib.hid hb; have HL := Lib.hid hL; clear ha hb hL
  have hK := kn_start (X := fun g => False) (d := cd) HA.out HB.out (Ext.refl w) (fun g hg => hg.elim) hw
  have hs0 : wA.heap.size = w.heap.size + 5 := by rw [hw]; simp
  have he0 : Ext w wA := by rw [hw]; exact (((((Ext.refl w).alloc _).alloc _).alloc _).alloc _).alloc _
  have HS0 := Lib.hid hs0; have HE0 := Lib.hid he0; have HK := Lib.hid hK; clear hw hs0 he0 hK
  refine calls_marks Tryz.func70 rfl ?_
  simp only [Tryz.ntmps70, List.size_toArray, List.length_cons, List.length_nil, Nat.reduceAdd, Nat.reduceSub, Array.replicate_succ, Array.replicate_zero, List.push_toArray, List.append_toArray, List.nil_append, List.cons_append]
  go_wp2_with fail
  obtain ⟨w0, hw0⟩ : ∃ w0, w0 = wA.alloc (.cells #[.slice none 0 0] 101) := ⟨_, rfl⟩
  rw [← hw0]
  have hs1 : w0.heap.size = wA.heap.size + 1 := by rw [hw0]; simp
  have hbx : Blk w0 wA.heap.size (.cells #[.slice none 0 0] 101) := by rw [hw0]; exact Blk.new wA _ rfl
  have he1 : Ext wA w0 := by rw [hw0]; exact (Ext.refl wA).alloc _
  have hK2 : ∀ W, Lv (fun g => g = wA.heap.size) w0 W → Kn A B c cd a b (w.heap.size + 2) (w.heap.size + 3) (w.heap.size + 4) w.heap.size (w.heap.size + 1) W := fun W hv => HK.out W (Lv.trans (Lv.of_ext he1) hv (fun g hg h => by omega))
  have hit := tables_iter A B c cd a b _ _ _ _ _ (fun g => g = wA.heap.size) w0 hK2 hn hm D hD HL.out.1 HL.out.2
  obtain ⟨inf, i1, i2, i3, i4⟩ := info_of info48
  have I1 := Lib.hid i1; have I2 := Lib.hid i2; have I3 := Lib.hid i3; have I4 := Lib.hid i4; clear i1 i2 i3 i4
  have HBX := Lib.hid hbx; have HE1 := Lib.hid he1; have HS1 := Lib.hid hs1
  clear hw0 hs1 hbx he1 hK2
  refine wp_of_In (wpIn_range (gf := 48) rfl (enters_of Tryz.func48 (by kernel_rfl) rfl) hit encT_size encT_lv encT_less (fun g h => h.elim)
    (ColI wA.heap.size w0.heap.size 101 58 w0) (fun _ _ _ _ => False) (col_firm (by rw [HS1.out]; omega) (Nat.le_refl _)) (fun _ _ _ _ _ h _ => h.elim) (fun g => g = wA.heap.size ∨ Value.ownBlock (.slice none 0 0) = some g)
    ⟨_, [], HBX.out, World.ownsRow_nil _ _ _ _, ⟨rfl, by simp⟩, rfl, Lv.refl _ _⟩ (fun g h => by rcases h with rfl | h; rw [HS1.out]; omega; cases h)
    (fun S W e h => ⟨Lv.of_ext e, fun g hg hs => (h g hg hs).elim id (fun h => by cases h)⟩)
    (fun vs => { tmps := #[.slice none 0 0, tabF (w.heap.size + 4) (w.heap.size + 2) (w.heap.size + 3), .pointer (some ⟨wA.heap.size, 0, none⟩), undef, .slice none 0 0, vs.getD 0 undef, tabF (w.heap.size + 4) (w.heap.size + 2) (w.heap.size + 3), vs.getD 0 undef, undef, undef, undef, undef, undef], defers := [] }) ?assign ?body ?done (fun _ _ _ _ _ _ _ _ h _ => h.elim))
  case assign =>
    rintro l x vs S W K ⟨g, v, rfl, ht, hng⟩ hK
    gi_wp2
    exact hK
  case body =>
    rintro l pre x vs S W ⟨v, vs', h1, h2, h3, h4, h5⟩ hle hpx ⟨g, u, rfl, ht, hng⟩
    have hlen : pre.length ≤ D := by have := hpx.length_le; simp [tabsV] at this; omega
    have H1 := Lib.hid h1; have H2 := Lib.hid h2; have H3 := Lib.hid h3; have H4 := Lib.hid h4; have H5 := Lib.hid h5; have HT := Lib.hid ht; have HN := Lib.hid hng
    have c0 := h1.cell 0; have f0 := h1.free 0
    replace c0 : W.cell? ⟨wA.heap.size, 0, none⟩ = some v := c0
    clear h1 h2 h3 h4 h5 ht hng
    obtain ⟨cc, cs, hv, -, -⟩ := HT.out
    subst hv
    gi_wp2_with (gi_at_builtin; refine wpListIn_append_size2 rfl (.tmp 8) (.tmp 10) 101 rfl w0.heap.size 58 inf _ 1 24 under48 I1.out I2.out I3.out I4.out rfl (by decide) v pre.length vs' (some ⟨W.heap.size, 0, none⟩) 1 1 [.slice (some ⟨g, 0, none⟩) x.length cc] rfl (by simp [Act.eval]) rfl (by simp [Value.oneCell']) (by simp only [maxLen]; omega) (by omega) (own_stab3 ((Ext.refl W).alloc _) H2.out) (Cells.new W _ [_] rfl) (by simp; omega) ?_; intro v2 w2 hown2 hg2 hb2; have hbx2 := col_box (by rw [HS1.out]; omega) H1.out H2.out ((Ext.refl W).alloc _) hg2; have c1 := hbx2.cell 0; have f1 := hbx2.free 0; obtain ⟨g', cap', rfl⟩ := ownsRow_succ hown2; have HO2 := Lib.hid hown2; have HG2 := Lib.hid hg2; have HB2 := Lib.hid hb2; clear hown2 hg2 hb2 hbx2 c0 f0; simp only [List.getElem?_toArray, List.getElem?_cons_zero] at c1)
    obtain ⟨p1, p2, p3, p4⟩ := col_step (by rw [HS1.out]; omega) (by decide) (by decide) H1.out H2.out H3.out H4.out H5.out (Nat.le_refl _) HT.out HN.out ((Ext.refl W).alloc _) HO2.out HG2.out HB2.out
    exact ⟨_, p1, p2, p3, p4⟩
  case done =>
    rintro D0 S W hD0 hnS ⟨v, vs', h1, h2, h3, h4, h5⟩ hdef
    have c0 := h1.cell 0
    replace c0 : W.cell? ⟨wA.heap.size, 0, none⟩ = some v := c0
    have hlen : (tabsV a b (D + 1)).length = D + 1 := by simp [tabsV]
    have HD := Lib.hid hdef; have H2 := Lib.hid h2; have H3 := Lib.hid h3; have H5 := Lib.hid h5; have HLEN := Lib.hid hlen
    clear hdef h1 h2 h3 h4 h5 hlen
    go_wp2_with fail
    refine ⟨by simp, .inl ⟨_, _, rfl, run_takeDeferred HD.out, ?_⟩⟩
    have hlv : Lv (fun g => g = D0) W (W.putObj D0 (.deferred none)) := Lv.putObj (S := fun g => g = D0) (Lv.refl _ _) (fun _ => rfl) _
    refine ⟨_, results_tmp rfl _ _ _, v, vs', rfl, ?_, ?_, ?_⟩
    · rw [← HLEN.out]
      refine own_base (own_lv H2.out hlv (fun g hg he => ?_)) (by rw [HS1.out, HS0.out]; omega)
      subst he
      obtain ⟨_, cur, hb⟩ := own_blk H2.out hg
      exact hb.nc ⟨_, HD.out, rfl⟩
    · refine H3.out.lv hlv (fun g cs f he hb => ?_)
      subst he
      exact hb.nc ⟨_, HD.out, rfl⟩
    · exact ((H5.out.putObj (l := D0) (fun h => absurd h (by omega)) (.deferred none)).extBelow (HE0.out.trans HE1.out) (fun g hg h => by rw [HS0.out] at h; omega))

theorem collect_any (A B : Option Addr) (c cd : Nat) (a b : Lns) (w wA : World) (ha : Strs w A a.length a) (hb : Strs w B b.length b) (hn : a.length ≤ 130) (hm : b.length ≤ 130) (D : Nat) (hD : D ≤ 260) (hL : LastT a b D)
    (hw : wA = ((((w.alloc (boxS A a.length c)).alloc (boxS B b.length cd)).alloc (boxS A a.length c)).alloc (boxS B b.length cd)).alloc (boxF w.heap.size (w.heap.size + 1))) :
    Calls Tryz.prog 51 #[tabF (w.heap.size + 4) (w.heap.size + 2) (w.heap.size + 3)] wA fun e w' => ∃ v vs, e = .returned v ∧ w'.ownsRow w.heap.size 58 1 v (D + 1) vs ∧ Tabs w' vs (tabsV a b (D + 1)) ∧ Ext w w' := by
  have HA := Lib.hid ha; have HB := Lib.hid hb; have HL := Lib.hid hL; have HW := Lib.hid hw; clear ha hb hL hw
  go_enter Tryz.func51, Tryz.ntmps51
  go_wp2_with fail
  refine (appendSeq_any A B c cd a b w _ HA.out HB.out hn hm D hD HL.out HW.out).mono ?_
  rintro e w1 ⟨v, vs, rfl, h1, h2, h3⟩
  have H1 := Lib.hid h1; have H2 := Lib.hid h2; have H3 := Lib.hid h3; clear h1 h2 h3
  go_wp2_with fail
  go_ret
  exact ⟨v, vs, rfl, H1.out, H2.out, H3.out⟩

theorem tabs_list {W : World} : ∀ (ts : List (List Int)) (vs : List Value), Tabs W vs ts → (∀ t ∈ ts, t.length ≤ Reach) → ∃ L : List TB, (L.map fun s => Value.slice s.a s.n s.c) = vs ∧ L.map (·.t) = ts ∧ ∀ s ∈ L, RTB W s
  | [], vs, h, _ => by
    obtain rfl : vs = [] := List.eq_nil_of_length_eq_zero h.1
    exact ⟨[], rfl, rfl, by simp⟩
  | t :: ts, vs, h, hr => by
    cases vs with
    | nil => have := h.1; simp at this
    | cons v vs =>
      obtain ⟨L, h1, h2, h3⟩ := tabs_list ts vs ⟨by have := h.1; simp at this; exact this, fun j x y hx hy => h.2 (j + 1) x y (by simpa using hx) (by simpa using hy)⟩ (fun t ht => hr t (by simp [ht]))
      obtain ⟨g, hg⟩ := h.2 0 v t rfl rfl
      have hi := hg.ints
      obtain ⟨c, cs, rfl, _⟩ := hg
      refine ⟨⟨some ⟨g, 0, none⟩, t.length, c, t⟩ :: L, by simp [h1], by simp [h2], fun s hs => ?_⟩
      rcases List.mem_cons.1 hs with rfl | hs
      · exact ⟨hr t (by simp), hi⟩
      · exact h3 s hs
theorem tabsV_small (a b : Lns) {n : Nat} (hn : n ≤ 1000) : ∀ t ∈ tabsV a b n, t.length ≤ Reach := by
  intro t ht
  obtain ⟨d, hd, rfl⟩ := List.mem_map.1 ht
  rw [tabV_len, Reach]
  have := List.mem_range.1 hd
  omega
/-- A row of tables of one's own, as a slice. -/
theorem own_tabs {W : World} {base : Nat} {e : TypeId} {v : Value} {n : Nat} {vs : List Value} {ts : List (List Int)} (ho : W.ownsRow base e 1 v (n + 1) vs) (ht : Tabs W vs ts) (hr : ∀ t ∈ ts, t.length ≤ Reach) :
    ∃ g c L, v = .slice (some ⟨g, 0, none⟩) (n + 1) c ∧ base ≤ g ∧ n + 1 ≤ c ∧ (L.map fun s => Value.slice s.a s.n s.c) = vs ∧ RTBs W (some ⟨g, 0, none⟩) (n + 1) L ∧ L.map (·.t) = ts := by
  obtain ⟨L, h1, h2, h3⟩ := tabs_list ts vs ht hr
  have hl : vs.length = n + 1 := by simpa using ho.1
  have hc := fun g hg => ho.cells (g := g) hg
  rcases ho.2 with ⟨_, h0⟩ | ⟨g, cap, cur, rfl, hb, hgg, hnc, _⟩
  · omega
  · exact ⟨g, cap, L, rfl, hb, hnc, h1, ⟨by rw [← hl, ← h1]; simp, h3, by rw [h1]; exact Cells.of_add _ (hc g rfl)⟩, h2⟩
theorem RTBs.less {W : World} {A : Option Addr} {n m : Nat} {L : List TB} (h : RTBs W A n L) (hm : m ≤ n) : RTBs W A m (L.take m) :=
  ⟨by rw [List.length_take, h.1]; omega, fun s hs => h.2.1 s (List.mem_of_mem_take hs), by rw [List.map_take]; exact h.2.2.take m⟩
end Go.Proofs.YtmmcjcaccicheaaGreatDoor
/- Contracts: slices.Reverse of matches. -/
namespace Go.Proofs.YtmmcjcaccicheaaGreatDoor
open Go.RowKit

/-- A match in a row of one's own. -/
theorem ownM_get {w : World} {base g n cap : Nat} {ms : List Mt} (h : w.ownsRow base 104 3 (.slice (some ⟨g, 0, none⟩) n cap) n (ms.flatMap Mt.cells)) {k : Nat} {x : Mt} (hx : ms[k]? = some x) :
    w.cell? ⟨g, k * 3, none⟩ = some (.int .i64 x.a) ∧ w.cell? ⟨g, k * 3 + 1, none⟩ = some (.int .i64 x.b) ∧ w.cell? ⟨g, k * 3 + 2, none⟩ = some (.int .i64 x.n) := by
  have hl : ms.length = n := by have := h.1; rw [flat_len mt_cells_len] at this; omega
  have hk : k < n := by rw [← hl]; exact (List.getElem?_eq_some_iff.1 hx).1
  have g' := fun j hj => flat_get mt_cells_len ms k j _ hx hj
  refine ⟨?_, ?_, ?_⟩
  · rw [h.cellAt _ (by omega)]; exact g' 0 (by omega)
  · rw [h.cellAt _ (by omega)]; exact g' 1 (by omega)
  · rw [h.cellAt _ (by omega)]; exact g' 2 (by omega)
theorem flatM_set : ∀ (ms : List Mt) (k : Nat) (y : Mt), (((ms.flatMap Mt.cells).set (k * 3) (.int .i64 y.a)).set (k * 3 + 1) (.int .i64 y.b)).set (k * 3 + 2) (.int .i64 y.n) = (ms.set k y).flatMap Mt.cells
  | [], k, y => by simp
  | x :: t, 0, y => by simp [List.flatMap_cons, Mt.cells]
  | x :: t, k + 1, y => by
    have ih := flatM_set t k y
    rw [show (k + 1) * 3 = k * 3 + 3 by omega]
    simp only [List.flatMap_cons, List.set_cons_succ, Mt.cells, List.cons_append, List.nil_append]
    rw [← ih]
theorem ownM_put {w : World} {base g n cap : Nat} {ms : List Mt} (h : w.ownsRow base 104 3 (.slice (some ⟨g, 0, none⟩) n cap) n (ms.flatMap Mt.cells)) (k : Nat) (y : Mt) :
    (((w.setCell ⟨g, k * 3, none⟩ (.int .i64 y.a)).setCell ⟨g, k * 3 + 1, none⟩ (.int .i64 y.b)).setCell ⟨g, k * 3 + 2, none⟩ (.int .i64 y.n)).ownsRow base 104 3 (.slice (some ⟨g, 0, none⟩) n cap) n ((ms.set k y).flatMap Mt.cells) := by
  rw [← flatM_set]
  exact (((h.stored (k * 3) _).1.stored (k * 3 + 1) _).1.stored (k * 3 + 2) _).1
theorem ownM_free {w : World} {base g n cap : Nat} {ms : List Mt} (h : w.ownsRow base 104 3 (.slice (some ⟨g, 0, none⟩) n cap) n (ms.flatMap Mt.cells)) (k : Nat) :
    w.frozen? ⟨g, k * 3, none⟩ = false ∧ w.frozen? ⟨g, k * 3 + 1, none⟩ = false ∧ w.frozen? ⟨g, k * 3 + 2, none⟩ = false := ⟨h.frozenAt _, h.frozenAt _, h.frozenAt _⟩

/-- The row when k pairs have been exchanged. -/
def RevAt (ms : List Mt) (k : Nat) (L : List Mt) : Prop := L.length = ms.length ∧ ∀ p, p < ms.length → L[p]? = if p < k ∨ ms.length ≤ p + k then ms[ms.length - 1 - p]? else ms[p]?
theorem RevAt.start (ms : List Mt) : RevAt ms 0 ms := ⟨rfl, fun p hp => by rw [if_neg (by omega)]⟩
theorem RevAt.done {ms L : List Mt} {k : Nat} (h : RevAt ms k L) (hk : ms.length ≤ 2 * k + 1) : L = ms.reverse := by
  apply List.ext_getElem?
  intro p
  rcases Nat.lt_or_ge p ms.length with hp | hp
  · rw [h.2 p hp, List.getElem?_reverse hp]
    split
    · rfl
    · rw [show ms.length - 1 - p = p by omega]
  · rw [List.getElem?_eq_none (by rw [h.1]; exact hp), List.getElem?_eq_none (by simpa using hp)]
theorem RevAt.step {ms L : List Mt} {k : Nat} (h : RevAt ms k L) (hk : 2 * k + 1 < ms.length) {x y : Mt} (hx : L[k]? = some x) (hy : L[ms.length - 1 - k]? = some y) : RevAt ms (k + 1) ((L.set k y).set (ms.length - 1 - k) x) := by
  refine ⟨by simp [h.1], fun p hp => ?_⟩
  have h1 := h.2 k (by omega)
  have h2 := h.2 (ms.length - 1 - k) (by omega)
  rw [hx, if_neg (by omega)] at h1
  rw [hy, if_neg (by omega)] at h2
  have hpL : p < L.length := by rw [h.1]; exact hp
  rw [List.getElem?_set]
  by_cases e1 : ms.length - 1 - k = p
  · rw [if_pos e1, if_pos (by simp; omega), if_pos (by omega), h1, show ms.length - 1 - p = k by omega]
  · rw [if_neg e1, List.getElem?_set]
    by_cases e2 : k = p
    · rw [if_pos e2, if_pos (by omega), if_pos (by omega), h2, e2]
    · rw [if_neg e2, h.2 p hp]
      by_cases e3 : p < k ∨ ms.length ≤ p + k
      · rw [if_pos e3, if_pos (by omega)]
      · rw [if_neg e3, if_neg (by omega)]

set_option maxRecDepth 100000 in
set_option maxHeartbeats 4000000 in
theorem reverse_any (base g n c : Nat) (ms : List Mt) (w : World) (ho : w.ownsRow base 104 3 (.slice (some ⟨g, 0, none⟩) n c) n (ms.flatMap Mt.cells)) (hn : n ≤ 100000) :
    Calls Tryz.prog 52 #[.slice (some ⟨g, 0, none⟩) n c] w fun e w' => (∃ v, e = .returned v) ∧ w'.ownsRow base 104 3 (.slice (some ⟨g, 0, none⟩) n c) n (ms.reverse.flatMap Mt.cells) ∧ Below g w w' := by
  have hl : ms.length = n := by have := ho.1; rw [flat_len mt_cells_len] at this; omega
  subst hl
  have HO := Lib.hid ho; clear ho
  go_enter Tryz.func52, Tryz.ntmps52
  go_wp2_with fail
  go_loopw [2, 3] (fun i j wr => ∃ (k : Nat) (L : List Mt), 2 * k ≤ ms.length + 1 ∧ i = .int .i64 k ∧ j = .int .i64 ((ms.length : Int) - 1 - k) ∧ RevAt ms k L ∧ wr.ownsRow base 104 3 (.slice (some ⟨g, 0, none⟩) ms.length c) ms.length (L.flatMap Mt.cells) ∧ Below g w wr) (fun i _ _ => ms.length - (intOf i).toNat)
  case atStart => exact ⟨0, ms, by omega, by go_num, by go_num, RevAt.start ms, HO.out, Below.refl _ _⟩
  case round =>
    obtain ⟨k, L, hk, rfl, rfl, hL, ho, hB⟩ := hrel
    have HL := Lib.hid hL; have HO2 := Lib.hid ho; have HB := Lib.hid hB; clear hL ho hB
    by_cases hlt : 2 * k + 1 < ms.length
    · obtain ⟨q, hq⟩ : ∃ q : Nat, (ms.length : Int) - 1 - k = q := ⟨ms.length - 1 - k, by omega⟩
      have hqn : q = ms.length - 1 - k := by omega
      have hkq : (k : Int) < q := by omega
      have hql : (q : Int) < ms.length := by omega
      have hkl : (k : Int) < ms.length := by omega
      obtain ⟨x, hx⟩ : ∃ x, L[k]? = some x := ⟨_, List.getElem?_eq_getElem (by rw [HL.out.1]; omega)⟩
      obtain ⟨y, hy⟩ : ∃ y, L[q]? = some y := ⟨_, List.getElem?_eq_getElem (by rw [HL.out.1]; omega)⟩
      obtain ⟨c1, c2, c3⟩ := ownM_get HO2.out hx
      obtain ⟨d1, d2, d3⟩ := ownM_get HO2.out hy
      have f := ownM_free HO2.out
      obtain ⟨f1, f2, f3⟩ := f k
      obtain ⟨f4, f5, f6⟩ := f q
      have HX := Lib.hid hx; have HY := Lib.hid hy; have HQ := Lib.hid hq; have HQN := Lib.hid hqn
      rw [hq]
      clear hx hy hq hqn f
      have hne : k ≠ q := by omega
      go_wp2_with fail
      go_region
      go_wp2_with fail
      go_roundw
      case rel =>
        refine ⟨k + 1, (L.set k y).set q x, by omega, by go_num, by have hq := HQ.out; congr 1; omega, ?_, ?_, ?_⟩
        · rw [HQN.out]; exact HL.out.step (by omega) HX.out (HQN.out ▸ HY.out)
        · have h1 := ownM_put HO2.out k y
          exact own_stab3 (Ext.refl _).drew (ownM_put h1 q x)
        · exact ((((((HB.out.setCell (p := ⟨g, k * 3, none⟩) (Nat.le_refl _) _).setCell (p := ⟨g, k * 3 + 1, none⟩) (Nat.le_refl _) _).setCell (p := ⟨g, k * 3 + 2, none⟩) (Nat.le_refl _) _).setCell (p := ⟨g, q * 3, none⟩) (Nat.le_refl _) _).setCell (p := ⟨g, q * 3 + 1, none⟩) (Nat.le_refl _) _).setCell (p := ⟨g, q * 3 + 2, none⟩) (Nat.le_refl _) _).drew
      case measure => simp [intOf]; omega
    · have hge : ¬ ((k : Int) < (ms.length : Int) - 1 - k) := by omega
      have hR := HL.out.done (by omega)
      have HR := Lib.hid hR; clear hR
      go_wp2_with fail
      go_end0
      exact ⟨⟨_, rfl⟩, by rw [← HR.out]; exact HO2.out, HB.out⟩

theorem reverse_nil (w : World) :
    Calls Tryz.prog 52 #[.slice none 0 0] w fun e w' => (∃ v, e = .returned v) ∧ w = w' := by
  go_enter Tryz.func52, Tryz.ntmps52
  go_wp2_with fail
  go_loopw [2, 3] (fun i j wr => i = .int .i64 0 ∧ j = .int .i64 (-1) ∧ w = wr) (fun _ _ _ => 0)
  case atStart => exact ⟨rfl, rfl, rfl⟩
  case round =>
    obtain ⟨rfl, rfl, rfl⟩ := hrel
    go_wp2_with fail
    go_end0
    exact ⟨⟨_, rfl⟩, rfl⟩

/-- How many lines a matching keeps. -/
def keptV (ms : List Mt) : Int := ms.foldl (fun t m => t + m.n) 0
theorem keptV_snoc (l : List Mt) (m : Mt) : keptV (l ++ [m]) = keptV l + m.n := by simp [keptV]
theorem keptV_bound {l : List Mt} (h : ∀ m ∈ l, 0 ≤ m.n ∧ m.n ≤ 1000) (k : Nat) : 0 ≤ keptV (l.take k) ∧ keptV (l.take k) ≤ 1000 * k := by
  induction k with
  | zero => simp [keptV]
  | succ k ih =>
    rcases Nat.lt_or_ge k l.length with hk | hk
    · have e : l.take (k + 1) = l.take k ++ [l[k]] := by rw [List.take_add_one]; simp [hk]
      have := h l[k] (List.getElem_mem hk)
      rw [e, keptV_snoc]
      constructor <;> omega
    · rw [List.take_of_length_le (by omega)]
      rw [List.take_of_length_le hk] at ih
      constructor <;> omega

end Go.Proofs.YtmmcjcaccicheaaGreatDoor
/- Contract: myers.Diff. -/
namespace Go.Proofs.YtmmcjcaccicheaaGreatDoor
open Go.RowKit

/-- The matches, from the last one back: with d tables left, on the diagonal k at x. -/
def backV (a b : Lns) : Nat → Int → Int → List Mt
  | 0, _, _ => []
  | 1, k, x => if 0 < x then [⟨0, -k, x⟩] else []
  | d + 2, k, x => (if (stepV (tabV a b d) k).1 < x then [⟨(stepV (tabV a b d) k).1, (stepV (tabV a b d) k).1 - k, x - (stepV (tabV a b d) k).1⟩] else []) ++ backV a b (d + 1) (stepV (tabV a b d) k).2 ((atV (tabV a b d) (stepV (tabV a b d) k).2).getD 0)
def diffV (a b : Lns) (D : Nat) : List Mt := (backV a b (D + 1) ((a.length : Int) - b.length) a.length).reverse

theorem stepV_diag (t : List Int) (k : Int) : (stepV t k).2 = k + 1 ∨ (stepV t k).2 = k - 1 := by
  unfold stepV
  split <;> first | exact .inl rfl | exact .inr rfl | (split <;> first | exact .inl rfl | exact .inr rfl)
theorem atV_tab {a b : Lns} {d : Nat} (k : Int) : 0 ≤ (atV (tabV a b d) k).getD 0 ∧ (atV (tabV a b d) k).getD 0 ≤ (a.length : Int) + d := by
  unfold atV
  split
  · simp; omega
  · cases h : (tabV a b d)[((k + (((tabV a b d).length : Int) - 1)) / 2).toNat]? with
    | none => simp; omega
    | some x => simpa using tabV_bound a b d x (List.mem_of_getElem? h)
theorem resAt_getD (o : Option Int) : ∃ ok, resAt o = .tuple #[.int .i64 (o.getD 0), .bool ok] := by
  cases o with
  | none => exact ⟨false, rfl⟩
  | some x => exact ⟨true, rfl⟩
theorem at_getD {A : Option Addr} {n c : Nat} {t : List Int} {k : Int} {w : World} (ht : Ints w A n t) (hn : n ≤ 1000) (hk : -1000 ≤ k) (hk' : k ≤ 1000) :
    Calls Tryz.prog 24 #[.slice A n c, .int .i64 k] w fun e w' => ∃ ok, e = .returned (.tuple #[.int .i64 ((atV t k).getD 0), .bool ok]) ∧ w = w' := by
  refine (at_any A n c t k w ht hn hk hk').mono ?_
  rintro e w' ⟨h1, h2⟩
  obtain ⟨ok, hok⟩ := resAt_getD (atV t k)
  exact ⟨ok, by rw [h1, hok], h2⟩

theorem infoM : (Tryz.prog.info? 104).map (fun i => (i.zero, i.size, i.bytes)) = some (some (.agg #[.int .i64 0, .int .i64 0, .int .i64 0]), 3, 24) := by kernel_rfl
theorem underM : Tryz.prog.underlying 66 = some (.slice 104) := by kernel_rfl
theorem one_mt (ms : List Mt) : ∀ u ∈ ms.flatMap Mt.cells, u.oneCell' = true := by
  intro u hu
  obtain ⟨h, _, hu⟩ := List.mem_flatMap.1 hu
  simp only [Mt.cells, List.mem_cons, List.not_mem_nil, or_false] at hu
  rcases hu with rfl | rfl | rfl <;> rfl
/-- A row of matches of one's own, as a slice. -/
theorem ownM_mts {w : World} {base n : Nat} {v : Value} {ms : List Mt} (h : w.ownsRow base 104 3 v n (ms.flatMap Mt.cells)) (hs : ∀ m ∈ ms, m.wf) : ∃ A c, v = .slice A n c ∧ n ≤ c ∧ Mts w A n ms := by
  have hl : ms.length = n := by have := h.1; rw [flat_len mt_cells_len] at this; omega
  have hc := fun g hg => h.cells (g := g) hg
  rcases h.2 with ⟨rfl, rfl⟩ | ⟨g, cap, cur, rfl, hb, hgg, hnc, _⟩
  · obtain rfl : ms = [] := List.eq_nil_of_length_eq_zero hl
    exact ⟨none, 0, rfl, Nat.le_refl _, Mts.nil _ _⟩
  · exact ⟨_, _, rfl, hnc, hl, hs, Cells.of_add _ (hc g rfl)⟩
theorem mt_wf_small {x y z : Int} (hx : -100000 ≤ x ∧ x ≤ 100000) (hy : -100000 ≤ y ∧ y ≤ 100000) (hz : -100000 ≤ z ∧ z ≤ 100000) : (⟨x, y, z⟩ : Mt).wf := by
  unfold Mt.wf I64
  simp only
  omega

/-- What is known in the loop, with j tables left. -/
def DiffAt (a b : Lns) (D : Nat) (_w w1 : World) (j : Nat) (k x : Int) (v : Value) (wr : World) : Prop :=
  ∃ ms : List Mt, ms ++ backV a b j k x = backV a b (D + 1) ((a.length : Int) - b.length) a.length ∧ (∀ m ∈ ms, m.wf) ∧ ms.length + j ≤ D + 1 ∧ wr.ownsRow w1.heap.size 104 3 v ms.length (ms.flatMap Mt.cells) ∧ Ext w1 wr

set_option maxRecDepth 100000 in
set_option maxHeartbeats 8000000 in
theorem diff_any (A B : Option Addr) (n c m cd : Nat) (a b : Lns) (w : World) (ha : Strs w A n a) (hb : Strs w B m b) (hn : n ≤ 130) (hm : m ≤ 130) (D : Nat) (hD : D ≤ 260) (hL : LastT a b D) :
    Calls Tryz.prog 25 #[.slice A n c, .slice B m cd] w fun e w' => ∃ v N, e = .returned v ∧ w'.ownsRow w.heap.size 104 3 v N ((diffV a b D).flatMap Mt.cells) ∧ (∀ m ∈ diffV a b D, m.wf) ∧ Ext w w' := by
  obtain rfl : a.length = n := ha.1
  obtain rfl : b.length = m := hb.1
  have HA := Lib.hid ha; have HB := Lib.hid hb; have HL := Lib.hid hL; clear ha hb hL
  obtain ⟨inf, i1, i2, i3, i4⟩ := info_of infoM
  have I1 := Lib.hid i1; have I2 := Lib.hid i2; have I3 := Lib.hid i3; have I4 := Lib.hid i4; clear i1 i2 i3 i4
  go_enter Tryz.func25, Tryz.ntmps25
  go_wp2_with fail
  refine (follower_any _ _ _ _ _ _ _).mono ?_
  rintro e w1 ⟨rfl, rfl⟩
  go_wp2_with fail
  refine (tables_any _ _ _ _ _ _ _ _ _).mono ?_
  rintro e w1 ⟨rfl, rfl⟩
  go_wp2_with fail
  refine (collect_any A B c cd a b w _ HA.out HB.out hn hm D hD HL.out rfl).mono ?_
  rintro e w1 ⟨v, vs, rfl, h1, h2, h3⟩
  obtain ⟨g, cc, L, rfl, hgb, hcc, hL1, hL2, hL3⟩ := own_tabs h1 h2 (tabsV_small a b (by omega))
  have HR := Lib.hid hL2; have HT := Lib.hid hL3; have HE := Lib.hid h3
  clear h1 h2 h3 hL1 hL2 hL3
  go_wp2_with fail
  go_loopw [6, 7, 8, 9] (fun v6 v7 v8 v9 wr => ∃ (j : Nat) (k x : Int), j ≤ D + 1 ∧ v9 = .int .i64 ((j : Int) - 1) ∧ v7 = .int .i64 k ∧ v8 = .int .i64 x ∧ -130 - ((D : Int) + 1 - j) ≤ k ∧ k ≤ 130 + ((D : Int) + 1 - j) ∧ 0 ≤ x ∧ x ≤ 800 ∧ DiffAt a b D w w1 j k x v6 wr) (fun _ _ _ v9 _ => (intOf v9 + 1).toNat)
  case atStart => exact ⟨D + 1, _, _, Nat.le_refl _, by go_num, rfl, rfl, by omega, by omega, by omega, by omega, [], rfl, by simp, by simp, World.ownsRow_nil _ _ _ _, Ext.refl _⟩
  case round =>
    obtain ⟨j, k, x, hj, rfl, rfl, rfl, hk1, hk2, hx1, hx2, ms, hms, hwf, hlen, ho, hE2⟩ := hrel
    have HM := Lib.hid hms; have HW := Lib.hid hwf; have HO := Lib.hid ho; have HE2 := Lib.hid hE2
    clear hms hwf ho hE2
    rcases Nat.lt_trichotomy j 1 with hj0 | rfl | hj2
    · obtain rfl : j = 0 := by omega
      go_wp2_with fail
      have hfin : ms.reverse = diffV a b D := by rw [diffV, ← HM.out, backV, List.append_nil]
      have HF := Lib.hid hfin; clear hfin
      rcases HO.out.2 with ⟨rfl, h0⟩ | ⟨g2, cap, cur, rfl, hb2, rest⟩
      · have hnil : ms = [] := List.eq_nil_of_length_eq_zero h0
        refine (reverse_nil _).mono ?_
        rintro e w2 ⟨⟨v, rfl⟩, rfl⟩
        go_wp2_with fail
        go_ret
        refine ⟨_, 0, rfl, ?_, ?_, HE.out.trans HE2.out⟩
        · rw [← HF.out, hnil]; exact World.ownsRow_nil _ _ _ _
        · rw [← HF.out, hnil]; simp
      · clear rest
        refine (reverse_any w1.heap.size g2 ms.length cap ms _ HO.out (by omega)).mono ?_
        rintro e w2 ⟨⟨v, rfl⟩, ho2, hB⟩
        have HO2 := Lib.hid ho2; have HB2 := Lib.hid hB; clear ho2 hB
        go_wp2_with fail
        go_ret
        refine ⟨_, ms.length, rfl, ?_, ?_, ?_⟩
        · rw [← HF.out]; exact own_base HO2.out HE.out.size
        · rw [← HF.out]; intro m hm; exact HW.out m (by simpa using hm)
        · exact Below.trans (HE.out.trans HE2.out) (Below.mono HB2.out (by have := HE.out.size; omega))
    · by_cases hx : 0 < x
      · have hback : backV a b 1 k x = [⟨0, -k, x⟩] := by rw [backV, if_pos hx]
        have HBK := Lib.hid hback; clear hback
        go_wp2_with (at_builtin; refine wpList_append_size rfl (.tmp 48) (.tmp 57) 66 rfl w1.heap.size 104 inf _ 3 24 underM I1.out I2.out I3.out I4.out rfl (by decide) _ ms.length (ms.flatMap Mt.cells) (some ⟨wr.heap.size, 0, none⟩) 1 1 (Mt.cells ⟨0, -k, x⟩) rfl (by simp [Act.eval]) rfl (by simp [Mt.cells, Value.oneCell']) (by simp only [maxLen]; omega) (by omega) (own_stab3 ((Ext.refl wr).alloc _) HO.out) (Cells.new wr _ (Mt.cells ⟨0, -k, x⟩) rfl) (by have := HE2.out.size; simp; omega) ?_; intro v2 w2 hown2 hg2)
        have HO2 := Lib.hid hown2; have HG2 := Lib.hid hg2; clear hown2 hg2
        go_wp2_with fail
        go_roundw
        case rel =>
          refine ⟨0, k, x, by omega, by go_num, rfl, rfl, by omega, by omega, by omega, by omega, ms ++ [⟨0, -k, x⟩], ?_, ?_, by simp; omega, ?_, ?_⟩
          · rw [← HM.out, HBK.out]; simp [backV]
          · intro m hm
            rcases List.mem_append.1 hm with hm | hm
            · exact HW.out m hm
            · obtain rfl := List.mem_singleton.1 hm
              exact mt_wf_small (by omega) (by omega) (by omega)
          · rw [List.flatMap_append, List.length_append]; simpa using HO2.out
          · exact (HE2.out.alloc _).own3 (own_stab3 ((Ext.refl wr).alloc _) HO.out) HG2.out
        case measure => simp [intOf]
      · have hx0 : x = 0 := by omega
        have hback : backV a b 1 k x = [] := by rw [backV, if_neg hx]
        have hx' : decide (0 < x) = false := by simpa using hx
        have HBK := Lib.hid hback; have HX0 := Lib.hid hx0; clear hback hx0
        go_wp2_with fail
        go_roundw
        case rel =>
          refine ⟨0, k, x, by omega, by go_num, rfl, rfl, by omega, by omega, by omega, by omega, ms, ?_, HW.out, by omega, HO.out, HE2.out⟩
          rw [← HM.out, HBK.out]; simp [backV]
        case measure => simp [intOf]
    · obtain ⟨d, rfl⟩ : ∃ d, j = d + 2 := ⟨j - 2, by omega⟩
      obtain ⟨bt, off, s, hA, hbt, hs, hrs, hcw⟩ := HR.out.get (k := d) (by omega)
      cases hA
      rw [Nat.zero_add] at hcw
      have hst : s.t = tabV a b d := by
        have h1 : (L.map (·.t))[d]? = some s.t := by rw [List.getElem?_map, hs]; rfl
        rw [HT.out, tabsV, List.getElem?_map, List.getElem?_range (by omega)] at h1
        simpa using h1.symm
      have hsn : s.n = d + 1 := by rw [← hrs.2.1, hst, tabV_len]
      obtain ⟨sa, sn, sc, stt⟩ := s
      simp only at hst hsn hrs hcw
      subst hst hsn
      have hc := HE2.out.cell hcw
      have hint : Ints w1 sa (d + 1) (tabV a b d) := hrs.2
      have HI := Lib.hid hint; have HCW := Lib.hid hcw; clear hint hrs hs hcw
      have HTS := Lib.hid (tabV_small a b d (by omega) (by omega))
      obtain ⟨s1, s2, hs⟩ : ∃ s1 s2, stepV (tabV a b d) k = (s1, s2) := ⟨_, _, rfl⟩
      have hsb := stepV_bound (hi := (a.length : Int) + d) (tabV_bound a b d) (by omega) k
      have hsd := stepV_diag (tabV a b d) k
      rw [hs] at hsb hsd
      obtain ⟨hs1, hs2⟩ := hsb
      simp only at hs1 hs2 hsd
      have hsd1 : s2 ≤ k + 1 := by omega
      have hsd2 : k - 1 ≤ s2 := by omega
      have hback : backV a b (d + 2) k x = (if s1 < x then [⟨s1, s1 - k, x - s1⟩] else []) ++ backV a b (d + 1) s2 ((atV (tabV a b d) s2).getD 0) := by rw [backV, hs]
      obtain ⟨x', hx'⟩ : ∃ x', (atV (tabV a b d) s2).getD 0 = x' := ⟨_, rfl⟩
      have hxb := atV_tab (a := a) (b := b) (d := d) s2
      rw [hx'] at hxb hback
      obtain ⟨hxb1, hxb2⟩ := hxb
      have HST := Lib.hid hs; have HBK := Lib.hid hback; have HX' := Lib.hid hx'; clear hs hback hx' hsd
      have e1 : ((d + 2 : Nat) : Int) - 1 = (d : Int) + 1 := by omega
      rw [e1]; clear e1
      have hd0 : (0 : Int) < (d : Int) + 1 := by omega
      have e2 : (d : Int) + 1 - 1 = d := by omega
      by_cases hx : s1 < x
      · rw [if_pos hx] at HBK
        go_wp2_with fail
        refine (step_is HST.out (HI.out.ext HE2.out) (by omega) (by omega) (by omega) HTS.out).mono ?_
        rintro e W5 ⟨rfl, rfl⟩
        go_wp2_with (at_builtin; refine wpList_append_size rfl (.tmp 48) (.tmp 57) 66 rfl w1.heap.size 104 inf _ 3 24 underM I1.out I2.out I3.out I4.out rfl (by decide) _ ms.length (ms.flatMap Mt.cells) (some ⟨wr.heap.size, 0, none⟩) 1 1 (Mt.cells ⟨s1, s1 - k, x - s1⟩) rfl (by simp [Act.eval]) rfl (by simp [Mt.cells, Value.oneCell']) (by simp only [maxLen]; omega) (by omega) (own_stab3 ((Ext.refl wr).alloc _) HO.out) (Cells.new wr _ (Mt.cells ⟨s1, s1 - k, x - s1⟩) rfl) (by have := HE2.out.size; simp; omega) ?_; intro v2 w2 hown2 hg2; have hE3 := (HE2.out.alloc _).own3 (own_stab3 ((Ext.refl wr).alloc _) HO.out) hg2; have hc2 := hE3.cell HCW.out; have HO2 := Lib.hid hown2; have HE3 := Lib.hid hE3; clear hown2 hg2 hE3 hc)
        refine (at_getD (HI.out.ext HE3.out) (by omega) (by omega) (by omega)).mono ?_
        rintro e W6 ⟨ok, rfl, rfl⟩
        rw [HX'.out]
        go_wp2_with fail
        go_roundw
        case rel =>
          refine ⟨d + 1, s2, x', by omega, by go_num, rfl, rfl, by omega, by omega, by omega, by omega, ms ++ [⟨s1, s1 - k, x - s1⟩], ?_, ?_, by simp; omega, ?_, HE3.out⟩
          · rw [← HM.out, HBK.out]; simp
          · intro m hm
            rcases List.mem_append.1 hm with hm | hm
            · exact HW.out m hm
            · obtain rfl := List.mem_singleton.1 hm
              exact mt_wf_small (by omega) (by omega) (by omega)
          · rw [List.flatMap_append, List.length_append]; simpa using HO2.out
        case measure => simp [intOf]; omega
      · rw [if_neg hx] at HBK
        have hxf : decide (s1 < x) = false := by simpa using hx
        go_wp2_with fail
        refine (step_is HST.out (HI.out.ext HE2.out) (by omega) (by omega) (by omega) HTS.out).mono ?_
        rintro e W5 ⟨rfl, rfl⟩
        go_wp2_with fail
        refine (at_getD (HI.out.ext HE2.out) (by omega) (by omega) (by omega)).mono ?_
        rintro e W6 ⟨ok, rfl, rfl⟩
        rw [HX'.out]
        go_wp2_with fail
        go_roundw
        case rel =>
          refine ⟨d + 1, s2, x', by omega, by go_num, rfl, rfl, by omega, by omega, by omega, by omega, ms, ?_, HW.out, by omega, HO.out, HE2.out⟩
          rw [← HM.out, HBK.out]; simp
        case measure => simp [intOf]; omega
end Go.Proofs.YtmmcjcaccicheaaGreatDoor

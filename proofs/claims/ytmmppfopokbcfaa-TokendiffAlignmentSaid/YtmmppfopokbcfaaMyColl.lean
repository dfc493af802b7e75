/- Contracts: Collect of the tables; Certificate. -/
import Derived.Test.YtmmppfopokbcfaaMyDist
namespace Go.Proofs.Ytmmppfopokbcfaa
open Go.RowKit
attribute [local go_sem] Oper.semAt_some

theorem own_lv {S : Nat → Prop} {base : Nat} {e : TypeId} {size : Nat} {v : Value} {n : Nat} {xs : List Value} {W W' : World} (h : W.ownsRow base e size v n xs) (k : Lv S W W') (hS : ∀ g, v.ownBlock = some g → ¬ S g) : W'.ownsRow base e size v n xs := by
  refine ⟨h.1, ?_⟩
  rcases h.2 with hn | ⟨g, cap, cur, rfl, hb, hgg, rest⟩
  · exact .inl hn
  · exact .inr ⟨g, cap, cur, rfl, hb, Blk.lv hgg k (hS g rfl), rest⟩
theorem own_blk {base : Nat} {e : TypeId} {size : Nat} {v : Value} {n : Nat} {xs : List Value} {W : World} (h : W.ownsRow base e size v n xs) {g : Nat} (hg : v.ownBlock = some g) : base ≤ g ∧ ∃ cur, Blk W g (.cells cur e (0, 0)) := by
  rcases h.2 with ⟨rfl, _⟩ | ⟨g', cap, cur, rfl, hb, hgg, rest⟩
  · cases hg
  · cases hg; exact ⟨hb, cur, hgg⟩
theorem blk_type {W : World} {g : Nat} {cs cs' : Array Value} {t t' : TypeId} {f f' : Nat × Nat} (h : Blk W g (.cells cs t f)) (h' : Blk W g (.cells cs' t' f')) : t = t' := by
  unfold Blk at h h'; rw [h] at h'; cases h'; rfl

/-- The values are the tables, each in a block of its own. -/
def Tabs (W : World) (vs : List Value) (ts : List (List Int)) : Prop := vs.length = ts.length ∧ ∀ (j : Nat) (v : Value) (t : List Int), vs[j]? = some v → ts[j]? = some t → ∃ g, TabAt W g v t
theorem Tabs.lv {S : Nat → Prop} {W W' : World} {vs : List Value} {ts : List (List Int)} (h : Tabs W vs ts) (k : Lv S W W') (hS : ∀ g cs f, S g → ¬ Blk W g (.cells cs 3 f)) : Tabs W' vs ts :=
  ⟨h.1, fun j v t h1 h2 => by
    obtain ⟨g, hg⟩ := h.2 j v t h1 h2
    refine ⟨g, hg.lv k (fun hs => ?_)⟩
    obtain ⟨c, cs, _, hb, _⟩ := hg
    exact hS g cs _ hs hb⟩
theorem Tabs.ext {W W' : World} {vs : List Value} {ts : List (List Int)} (h : Tabs W vs ts) (k : Ext W W') : Tabs W' vs ts := h.lv (Lv.of_ext (S := fun _ => False) k) (fun _ _ _ h => h.elim)

/-- What has been collected so far. -/
def ColI (s0 n1 : Nat) (tb te : TypeId) (w0 : World) (pre : List (List Int)) (S : Nat → Prop) (W : World) : Prop :=
  ∃ v vs, Blk W s0 (.cells #[v] tb (0, 0)) ∧ W.ownsRow n1 te 1 v pre.length vs ∧ Tabs W vs pre ∧ (S = fun g => g = s0 ∨ v.ownBlock = some g) ∧ Lv (fun g => g = s0) w0 W

section
variable {s0 n1 : Nat} {tb te : TypeId} {w0 : World}
theorem col_firm (hs : s0 < n1) (hn : w0.heap.size ≤ n1) : Firm (fun _ => False) n1 (ColI s0 n1 tb te w0) := by
  rintro pre S W W' ⟨v, vs, h1, h2, h3, h4, h5⟩ hv
  refine ⟨v, vs, h1.lv hv (fun h => ?_), own_lv h2 hv (fun g hg h => ?_), h3.lv hv (fun g cs f h hb => ?_), h4, lv_firm hn h5 hv⟩
  · rcases h with h | h
    · exact h
    · omega
  · rcases h with h | h
    · exact h
    · obtain ⟨_, cur, hb⟩ := own_blk h2 hg
      exact hb.nc h.2
  · rcases h with h | h
    · exact h
    · exact hb.nc h.2

theorem col_box (hs : s0 < n1) {n : Nat} {W W1 W2 : World} {v : Value} {vs : List Value} (h1 : Blk W s0 (.cells #[v] tb (0, 0))) (h2 : W.ownsRow n1 te 1 v n vs) (he : Ext W W1) (hgr : W1.grownBy W2 v.ownBlock) : Blk W2 s0 (.cells #[v] tb (0, 0)) :=
  (hgr.block s0 (h1.ext he).lt (fun hk => by have := (own_blk h2 hk.symm).1; omega)).trans (h1.ext he)
theorem col_step (hs : s0 < n1) (htb : tb ≠ 3) (hte : te ≠ 3) {pre : List (List Int)} {S : Nat → Prop} {W W1 W2 : World} {v v' u : Value} {vs : List Value} {t : List Int} {g : Nat}
    (h1 : Blk W s0 (.cells #[v] tb (0, 0))) (h2 : W.ownsRow n1 te 1 v pre.length vs) (h3 : Tabs W vs pre) (h4 : S = fun g => g = s0 ∨ v.ownBlock = some g) (h5 : Lv (fun g => g = s0) w0 W) (h6 : w0.heap.size ≤ n1)
    (ht : TabAt W g u t) (hn : ¬ S g) (he : Ext W W1) (hown : W2.ownsRow n1 te 1 v' (pre.length + 1) (vs ++ [u])) (hgr : W1.grownBy W2 v.ownBlock) (hbl : v'.ownBlock = v.ownBlock ∨ ∃ g, v'.ownBlock = some g ∧ W1.heap.size ≤ g) :
    Lv S W (W2.setCell ⟨s0, 0, none⟩ v') ∧ (∀ g, (g = s0 ∨ v'.ownBlock = some g) → S g ∨ W.heap.size ≤ g) ∧ (∀ g, (g = s0 ∨ v'.ownBlock = some g) → g < (W2.setCell ⟨s0, 0, none⟩ v').heap.size) ∧
      ColI s0 n1 tb te w0 (pre ++ [t]) (fun g => g = s0 ∨ v'.ownBlock = some g) (W2.setCell ⟨s0, 0, none⟩ v') := by
  have hl2 : Lv S W W2 := (Lv.of_ext he).grown hgr (fun k hk _ => by rw [h4]; exact .inr hk)
  have hl3 : Lv S W (W2.setCell ⟨s0, 0, none⟩ v') := hl2.setCell (p := ⟨s0, 0, none⟩) (fun _ => by rw [h4]; exact .inl rfl) v'
  have hb0 : Blk W2 s0 (.cells #[v] tb (0, 0)) := (hgr.block s0 (h1.ext he).lt (fun hk => by have := (own_blk h2 hk.symm).1; omega)).trans (h1.ext he)
  have hS : ∀ g cs f, S g → ¬ Blk W g (.cells cs 3 f) := by
    rintro g cs f hsg hb
    rw [h4] at hsg
    rcases hsg with rfl | hk
    · exact htb (blk_type h1 hb)
    · obtain ⟨_, cur, hb'⟩ := own_blk h2 hk
      exact hte (blk_type hb' hb)
  refine ⟨hl3, ?_, ?_, v', vs ++ [u], ?_, ?_, ?_, rfl, ?_⟩
  · rintro g (rfl | hk)
    · rw [h4]; exact .inl (.inl rfl)
    · rcases hbl with hb | ⟨g', hg', hle⟩
      · rw [h4]; exact .inl (.inr (hb ▸ hk))
      · rw [hg'] at hk; cases hk
        exact .inr (Nat.le_trans he.size hle)
  · rintro g (rfl | hk)
    · simpa using hb0.lt
    · obtain ⟨_, cur, hb'⟩ := own_blk hown hk
      simpa using hb'.lt
  · simpa using hb0.put 0 v'
  · rw [List.length_append]
    exact own_lv (S := fun g => g = s0) hown (Lv.setCell (S := fun g => g = s0) (Lv.refl _ _) (p := ⟨s0, 0, none⟩) (fun _ => rfl) v') (fun g hg he => by have := (own_blk hown hg).1; omega)
  · have h3' := h3.lv hl3 hS
    refine ⟨by simp [h3.1], fun j x y hx hy => ?_⟩
    rcases Nat.lt_or_ge j vs.length with hj | hj
    · rw [List.getElem?_append_left hj] at hx
      rw [List.getElem?_append_left (by rw [← h3.1]; exact hj)] at hy
      exact h3'.2 j x y hx hy
    · rw [List.getElem?_append_right hj] at hx
      rw [List.getElem?_append_right (by rw [← h3.1]; exact hj)] at hy
      obtain ⟨h7, h8⟩ : j - vs.length = 0 ∧ u = x := by
        rcases hq : j - vs.length with _ | q
        · rw [hq] at hx; exact ⟨rfl, by simpa using hx⟩
        · rw [hq] at hx; simp at hx
      rw [show j - pre.length = 0 by rw [← h3.1]; exact h7] at hy
      obtain rfl : t = y := by simpa using hy
      subst h8
      exact ⟨g, ht.lv hl3 hn⟩
  · refine (h5.trans hl3 (fun g hg hs' => ?_))
    rw [h4] at hs'
    rcases hs' with h | hk
    · exact h
    · have := (own_blk h2 hk).1; omega
end

theorem info48 : (Try.prog.info? 95).map (fun i => (i.zero, i.size, i.bytes)) = some (some (.slice none 0 0), 1, 24) := by kernel_rfl
theorem under48 : Try.prog.underlying 93 = some (.slice 95) := by kernel_rfl
theorem info47 : (Try.prog.info? 67).map (fun i => (i.zero, i.size, i.bytes)) = some (some (.slice none 0 0), 1, 24) := by kernel_rfl
theorem under33 : Try.prog.underlying 65 = some (.slice 67) := by kernel_rfl

set_option maxRecDepth 100000 in
set_option maxHeartbeats 4000000 in
theorem appendSeq_any (A B : Option Addr) (c cd : Nat) (a b : Lns) (w wA : World) (ha : Strs w A a.length a) (hb : Strs w B b.length b) (hn : a.length ≤ 130) (hm : b.length ≤ 130) (D : Nat) (hD : D ≤ 260) (hL : LastT a b D)
    (hw : wA = ((((w.alloc (boxS A a.length c)).alloc (boxS B b.length cd)).alloc (boxS A a.length c)).alloc (boxS B b.length cd)).alloc (boxF w.heap.size (w.heap.size + 1))) :
    Calls Try.prog 76 #[.slice none 0 0, tabF (w.heap.size + 4) (w.heap.size + 2) (w.heap.size + 3)] wA fun e w' => ∃ v vs, e = .returned v ∧ w'.ownsRow w.heap.size 95 1 v (D + 1) vs ∧ Tabs w' vs (tabsV a b (D + 1)) ∧ Ext w w' := by
  have HA := Lib.hid ha; have HB := Lib.hid hb; have HL := Lib.hid hL; clear ha hb hL
  have hK := kn_start (X := fun g => False) (d := cd) HA.out HB.out (Ext.refl w) (fun g hg => hg.elim) hw
  have hs0 : wA.heap.size = w.heap.size + 5 := by rw [hw]; simp
  have he0 : Ext w wA := by rw [hw]; exact (((((Ext.refl w).alloc _).alloc _).alloc _).alloc _).alloc _
  have HS0 := Lib.hid hs0; have HE0 := Lib.hid he0; have HK := Lib.hid hK; clear hw hs0 he0 hK
  refine calls_marks Try.func76 rfl ?_
  simp only [Try.ntmps76, List.size_toArray, List.length_cons, List.length_nil, Nat.reduceAdd, Nat.reduceSub, Array.replicate_succ, Array.replicate_zero, List.push_toArray, List.append_toArray, List.nil_append, List.cons_append]
  go_wp2_with fail
  obtain ⟨w0, hw0⟩ : ∃ w0, w0 = wA.alloc (.cells #[.slice none 0 0] 93) := ⟨_, rfl⟩
  rw [← hw0]
  have hs1 : w0.heap.size = wA.heap.size + 1 := by rw [hw0]; simp
  have hbx : Blk w0 wA.heap.size (.cells #[.slice none 0 0] 93) := by rw [hw0]; exact Blk.new wA _ rfl
  have he1 : Ext wA w0 := by rw [hw0]; exact (Ext.refl wA).alloc _
  have hK2 : ∀ W, Lv (fun g => g = wA.heap.size) w0 W → Kn A B c cd a b (w.heap.size + 2) (w.heap.size + 3) (w.heap.size + 4) w.heap.size (w.heap.size + 1) W := fun W hv => HK.out W (Lv.trans (Lv.of_ext he1) hv (fun g hg h => by omega))
  have hit := tables_iter A B c cd a b _ _ _ _ _ (fun g => g = wA.heap.size) w0 hK2 hn hm D hD HL.out.1 HL.out.2
  obtain ⟨inf, i1, i2, i3, i4⟩ := info_of info48
  have I1 := Lib.hid i1; have I2 := Lib.hid i2; have I3 := Lib.hid i3; have I4 := Lib.hid i4; clear i1 i2 i3 i4
  have HBX := Lib.hid hbx; have HE1 := Lib.hid he1; have HS1 := Lib.hid hs1
  clear hw0 hs1 hbx he1 hK2
  refine wp_of_In (wpIn_range (gf := 66) rfl (enters_of Try.func66 (by kernel_rfl) rfl) hit encT_size encT_lv encT_less (fun g h => h.elim)
    (ColI wA.heap.size w0.heap.size 93 95 w0) (fun _ _ _ _ => False) (col_firm (by rw [HS1.out]; omega) (Nat.le_refl _)) (fun _ _ _ _ _ h _ => h.elim) (fun g => g = wA.heap.size ∨ Value.ownBlock (.slice none 0 0) = some g)
    ⟨_, [], HBX.out, World.ownsRow_nil _ _ _ _, ⟨rfl, by simp⟩, rfl, Lv.refl _ _⟩ (fun g h => by rcases h with rfl | h; rw [HS1.out]; omega; cases h)
    (fun S W e h => ⟨Lv.of_ext e, fun g hg hs => (h g hg hs).elim id (fun h => by cases h)⟩)
    (fun vs => { tmps := #[.slice none 0 0, tabF (w.heap.size + 4) (w.heap.size + 2) (w.heap.size + 3), .pointer (some ⟨wA.heap.size, 0, none⟩), undef, .slice none 0 0, vs.getD 0 undef, tabF (w.heap.size + 4) (w.heap.size + 2) (w.heap.size + 3), vs.getD 0 undef, undef, undef, undef, undef, undef], defers := [] }) ?assign ?body ?done (fun _ _ _ _ _ _ _ _ h _ => h.elim))
  case assign =>
    rintro l x vs S W K ⟨g, v, rfl, ht, hng⟩ hK
    gi_wp2
    exact hK
  case body =>
    rintro l pre x vs S W ⟨v, vs', h1, h2, h3, h4, h5⟩ hle hpx ⟨g, u, rfl, ht, hng⟩
    have hlen : pre.length ≤ D := by have := hpx.length_le; simp [tabsV] at this; omega
    have H1 := Lib.hid h1; have H2 := Lib.hid h2; have H3 := Lib.hid h3; have H4 := Lib.hid h4; have H5 := Lib.hid h5; have HT := Lib.hid ht; have HN := Lib.hid hng
    have c0 := h1.cell 0; have f0 := h1.free 0
    replace c0 : W.cell? ⟨wA.heap.size, 0, none⟩ = some v := c0
    clear h1 h2 h3 h4 h5 ht hng
    obtain ⟨cc, cs, hv, -, -⟩ := HT.out
    subst hv
    gi_wp2_with (gi_at_builtin; refine wpListIn_append_size2 rfl (.tmp 8) (.tmp 10) 93 rfl w0.heap.size 95 inf _ 1 24 under48 I1.out I2.out I3.out I4.out rfl (by decide) v pre.length vs' (some ⟨W.heap.size, 0, none⟩) 1 1 [.slice (some ⟨g, 0, none⟩) x.length cc] rfl (by simp [Act.eval]) rfl (by simp [Value.oneCell']) (by simp only [maxLen]; omega) (by omega) (own_stab3 ((Ext.refl W).alloc _) H2.out) (Cells.new W _ [_] rfl) (by simp; omega) ?_; intro v2 w2 hown2 hg2 hb2; have hbx2 := col_box (by rw [HS1.out]; omega) H1.out H2.out ((Ext.refl W).alloc _) hg2; have c1 := hbx2.cell 0; have f1 := hbx2.free 0; obtain ⟨g', cap', rfl⟩ := ownsRow_succ hown2; have HO2 := Lib.hid hown2; have HG2 := Lib.hid hg2; have HB2 := Lib.hid hb2; clear hown2 hg2 hb2 hbx2 c0 f0; simp only [List.getElem?_toArray, List.getElem?_cons_zero] at c1)
    obtain ⟨p1, p2, p3, p4⟩ := col_step (by rw [HS1.out]; omega) (by decide) (by decide) H1.out H2.out H3.out H4.out H5.out (Nat.le_refl _) HT.out HN.out ((Ext.refl W).alloc _) HO2.out HG2.out HB2.out
    exact ⟨_, p1, p2, p3, p4⟩
  case done =>
    rintro D0 S W hD0 hnS ⟨v, vs', h1, h2, h3, h4, h5⟩ hdef
    have c0 := h1.cell 0
    replace c0 : W.cell? ⟨wA.heap.size, 0, none⟩ = some v := c0
    have hlen : (tabsV a b (D + 1)).length = D + 1 := by simp [tabsV]
    have HD := Lib.hid hdef; have H2 := Lib.hid h2; have H3 := Lib.hid h3; have H5 := Lib.hid h5; have HLEN := Lib.hid hlen
    clear hdef h1 h2 h3 h4 h5 hlen
    go_wp2_with fail
    refine ⟨by simp, .inl ⟨_, _, rfl, run_takeDeferred HD.out, ?_⟩⟩
    have hlv : Lv (fun g => g = D0) W (W.putObj D0 (.deferred none)) := Lv.putObj (S := fun g => g = D0) (Lv.refl _ _) (fun _ => rfl) _
    refine ⟨_, results_tmp rfl _ _ _, v, vs', rfl, ?_, ?_, ?_⟩
    · rw [← HLEN.out]
      refine own_base (own_lv H2.out hlv (fun g hg he => ?_)) (by rw [HS1.out, HS0.out]; omega)
      subst he
      obtain ⟨_, cur, hb⟩ := own_blk H2.out hg
      exact hb.nc ⟨_, HD.out, rfl⟩
    · refine H3.out.lv hlv (fun g cs f he hb => ?_)
      subst he
      exact hb.nc ⟨_, HD.out, rfl⟩
    · exact ((H5.out.putObj (l := D0) (fun h => absurd h (by omega)) (.deferred none)).extBelow (HE0.out.trans HE1.out) (fun g hg h => by rw [HS0.out] at h; omega))

theorem collect_any (A B : Option Addr) (c cd : Nat) (a b : Lns) (w wA : World) (ha : Strs w A a.length a) (hb : Strs w B b.length b) (hn : a.length ≤ 130) (hm : b.length ≤ 130) (D : Nat) (hD : D ≤ 260) (hL : LastT a b D)
    (hw : wA = ((((w.alloc (boxS A a.length c)).alloc (boxS B b.length cd)).alloc (boxS A a.length c)).alloc (boxS B b.length cd)).alloc (boxF w.heap.size (w.heap.size + 1))) :
    Calls Try.prog 59 #[tabF (w.heap.size + 4) (w.heap.size + 2) (w.heap.size + 3)] wA fun e w' => ∃ v vs, e = .returned v ∧ w'.ownsRow w.heap.size 95 1 v (D + 1) vs ∧ Tabs w' vs (tabsV a b (D + 1)) ∧ Ext w w' := by
  have HA := Lib.hid ha; have HB := Lib.hid hb; have HL := Lib.hid hL; have HW := Lib.hid hw; clear ha hb hL hw
  go_enter Try.func59, Try.ntmps59
  go_wp2_with fail
  refine (appendSeq_any A B c cd a b w _ HA.out HB.out hn hm D hD HL.out HW.out).mono ?_
  rintro e w1 ⟨v, vs, rfl, h1, h2, h3⟩
  have H1 := Lib.hid h1; have H2 := Lib.hid h2; have H3 := Lib.hid h3; clear h1 h2 h3
  go_wp2_with fail
  go_ret
  exact ⟨v, vs, rfl, H1.out, H2.out, H3.out⟩

theorem tabs_list {W : World} : ∀ (ts : List (List Int)) (vs : List Value), Tabs W vs ts → (∀ t ∈ ts, t.length ≤ Reach) → ∃ L : List TB, (L.map fun s => Value.slice s.a s.n s.c) = vs ∧ L.map (·.t) = ts ∧ ∀ s ∈ L, RTB W s
  | [], vs, h, _ => by
    obtain rfl : vs = [] := List.eq_nil_of_length_eq_zero h.1
    exact ⟨[], rfl, rfl, by simp⟩
  | t :: ts, vs, h, hr => by
    cases vs with
    | nil => have := h.1; simp at this
    | cons v vs =>
      obtain ⟨L, h1, h2, h3⟩ := tabs_list ts vs ⟨by have := h.1; simp at this; exact this, fun j x y hx hy => h.2 (j + 1) x y (by simpa using hx) (by simpa using hy)⟩ (fun t ht => hr t (by simp [ht]))
      obtain ⟨g, hg⟩ := h.2 0 v t rfl rfl
      have hi := hg.ints
      obtain ⟨c, cs, rfl, _⟩ := hg
      refine ⟨⟨some ⟨g, 0, none⟩, t.length, c, t⟩ :: L, by simp [h1], by simp [h2], fun s hs => ?_⟩
      rcases List.mem_cons.1 hs with rfl | hs
      · exact ⟨hr t (by simp), hi⟩
      · exact h3 s hs
theorem tabsV_small (a b : Lns) {n : Nat} (hn : n ≤ 1000) : ∀ t ∈ tabsV a b n, t.length ≤ Reach := by
  intro t ht
  obtain ⟨d, hd, rfl⟩ := List.mem_map.1 ht
  rw [tabV_len, Reach]
  have := List.mem_range.1 hd
  omega
/-- A row of tables of one's own, as a slice. -/
theorem own_tabs {W : World} {base : Nat} {e : TypeId} {v : Value} {n : Nat} {vs : List Value} {ts : List (List Int)} (ho : W.ownsRow base e 1 v (n + 1) vs) (ht : Tabs W vs ts) (hr : ∀ t ∈ ts, t.length ≤ Reach) :
    ∃ g c L, v = .slice (some ⟨g, 0, none⟩) (n + 1) c ∧ base ≤ g ∧ n + 1 ≤ c ∧ (L.map fun s => Value.slice s.a s.n s.c) = vs ∧ RTBs W (some ⟨g, 0, none⟩) (n + 1) L ∧ L.map (·.t) = ts := by
  obtain ⟨L, h1, h2, h3⟩ := tabs_list ts vs ht hr
  have hl : vs.length = n + 1 := by simpa using ho.1
  have hc := fun g hg => ho.cells (g := g) hg
  rcases ho.2 with ⟨_, h0⟩ | ⟨g, cap, cur, rfl, hb, hgg, hnc, _⟩
  · omega
  · exact ⟨g, cap, L, rfl, hb, hnc, h1, ⟨by rw [← hl, ← h1]; simp, h3, by rw [h1]; exact Cells.of_add _ (hc g rfl)⟩, h2⟩
theorem RTBs.less {W : World} {A : Option Addr} {n m : Nat} {L : List TB} (h : RTBs W A n L) (hm : m ≤ n) : RTBs W A m (L.take m) :=
  ⟨by rw [List.length_take, h.1]; omega, fun s hs => h.2.1 s (List.mem_of_mem_take hs), by rw [List.map_take]; exact h.2.2.take m⟩
end Go.Proofs.Ytmmppfopokbcfaa

/- arq's Poll for a sender with one string that was not sent yet. No condition. -/
import Derived.Test.YtmmcjcaccicheaaTfDue
import Derived.Test.YtmmcjcaccicheaaHiIn
namespace Go.Proofs.Ytmmcjcaccicheaa
open Go.RowKit
attribute [local go_sem] Oper.semAt_some
set_option maxRecDepth 10000 in
set_option maxHeartbeats 4000000 in
theorem clone1i_is (gs cs : Nat) (w : World) (hs : w.cell? ⟨gs, 0, none⟩ = some (.int .i64 (-1))) : Calls Try.prog 33 #[.slice (some ⟨gs, 0, none⟩) 1 cs] w fun e w' => ∃ gr cr, e = .returned (.slice (some ⟨gr, 0, none⟩) 1 cr) ∧ w'.ownsRow w.heap.size 3 1 (.slice (some ⟨gr, 0, none⟩) 1 cr) 1 [.int .i64 (-1)] ∧ Ext w w' := by
  have hnil : (binOp .eql 43 (.slice (some ⟨gs, 0, none⟩) 1 cs) (.slice none 0 0)).run Try.prog w = .ok (.bool false) w := Lib.run_eql_slice_nil w _ _ (some ⟨gs, 0, none⟩) 1 cs 0 0 Try.underlying43
  obtain ⟨inj, i1, i2, i3, i4⟩ := info_of infoInt
  have J1 := Lib.hid i1; have J2 := Lib.hid i2; have J3 := Lib.hid i3; have J4 := Lib.hid i4; clear i1 i2 i3 i4
  have e1 : Ext w (w.alloc (.cells #[] 3)) := (Ext.refl w).alloc _
  have hs2 := e1.cell hs
  go_enter Try.func33, Try.ntmps33
  go_wp2_with (at_builtin; refine wpList_append_size2 rfl (.tmp 5) (.tmp 6) 43 rfl w.heap.size 3 inj _ 1 8 Try.underlying43 J1.out J2.out J3.out J4.out rfl (by decide) (.slice (some ⟨w.heap.size, 0, none⟩) 0 0) 0 [] (some ⟨gs, 0, none⟩) 1 cs [.int .i64 (-1)] rfl rfl rfl (by simp [Value.oneCell']) (by simp [maxLen]) (by simp) (World.ownsRow_made (size := 1) (e := 3) w #[] 0 (Nat.le_refl _) (by decide) rfl) (.inr ⟨gs, 0, rfl, fun j u hj => by rw [Nat.zero_add]; match j, hj with | 0, hj => (cases hj; exact hs2) | j + 1, hj => simp at hj⟩) (by simp) ?_; intro v2 w2 hown hgr _)
  obtain ⟨gr, cr, rfl⟩ := own_slice hown (by simp)
  have hE : Ext w w2 := Ext.grown e1 hgr (fun k hk => by cases hk; exact Nat.le_refl _)
  have HO := Lib.hid hown; have HE := Lib.hid hE
  clear hown hgr hE hnil hs2 e1
  go_wp2_with fail
  go_ret
  exact ⟨gr, cr, rfl, by simpa using HO.out, HE.out⟩
theorem infoFr : (Try.prog.info? 83).map (fun i => (i.zero, i.size, i.bytes)) = some (some (.agg #[.bool false, .int .i64 0, .string ⟨#[]⟩]), 3, 32) := by kernel_rfl
theorem wpIn_region_Y {P : Program} {Q : Exit → Act → World → Prop} {a : Act} {w : World} {ops : Array Oper} {l id : Nat} (s : Nat) (T S : World → Prop) (hm : P.follows .mixedOrders = true) (hd : plainOps ops = true) (hQ : ¬ LetsOut Q) (hS : S w.drew) (h : wpY P .any ops Q s T ops.size (Array.replicate ops.size false) S a) :
    (Code.region id ops true).wpIn (Fence.wide.inRound l) 0 P Q a w :=
  wpIn_region_any hm (wpAnyIn_of l hd hQ _ _ _ _ (wpAny_of_Y _ _ _ _ h _ hS))
theorem results_cell2 {P : Program} {fn : Func} {p q : Tmp} {t : TypeId} {tmps : Array Value} {w : World} {v u : Value} {A : Addr} (h : fn.results = #[.cell p t, .tmp q]) (hp : tmps.getD p undef = .pointer (some A)) (hl : (loadVar t A).run P w = .ok v w) (hq : tmps.getD q undef = u) :
    (results fn tmps).run P w = .ok (.tuple #[v, u]) w := by
  rw [Array.getD_eq_getD_getElem?] at hp hq
  simp only [results, h]
  simp [Sem.run_bind, Result.andThen, hp, asAddr, hl, hq]
theorem Ext.lvx {w A B : World} {X : Nat → Prop} {a b : Nat} (h : Ext w A) (k : Lv X A B) (hX : ∀ g, X g ↔ (g = a ∨ g = b)) (ha : w.heap.size ≤ a) (hb : w.heap.size ≤ b) : Ext w B :=
  k.extBelow h (fun g hg hx => by rcases (hX g).1 hx with h | h <;> omega)
set_option maxRecDepth 100000 in
set_option maxHeartbeats 16000000 in
theorem poll_is (gd cd gs cs : Nat) (x : Bs) (hx : x.length ≤ 1000) (w : World) (hd : w.cell? ⟨gd, 0, none⟩ = some (sv x)) (hs : w.cell? ⟨gs, 0, none⟩ = some (.int .i64 (-1))) :
    Calls Try.prog 19 #[.agg (snd 0 1 (.slice (some ⟨gd, 0, none⟩) 1 cd) (.slice (some ⟨gs, 0, none⟩) 1 cs)), .int .i64 0] w fun e w' => ∃ gr cr p c, e = .returned (.tuple #[.agg (snd 0 1 (.slice (some ⟨gd, 0, none⟩) 1 cd) (.slice (some ⟨gr, 0, none⟩) 1 cr)), .slice p 1 c]) ∧ Ext w w' := by
  obtain ⟨W1, hW1⟩ : ∃ W, ((w.alloc (.cells (snd 0 1 (.slice (some ⟨gd, 0, none⟩) 1 cd) (.slice (some ⟨gs, 0, none⟩) 1 cs)) 45)).alloc (.cells #[.int .i64 0] 3)).alloc (.cells (snd 0 0 zsg zsg) 45) = W := ⟨_, rfl⟩
  have b2 : Blk W1 w.heap.size (.cells (snd 0 1 (.slice (some ⟨gd, 0, none⟩) 1 cd) (.slice (some ⟨gs, 0, none⟩) 1 cs)) 45 (0, 0)) := by rw [← hW1]; exact ((Blk.new w _ rfl).alloc _).alloc _
  have b3 : Blk W1 (w.heap.size + 1) (.cells #[.int .i64 0] 3 (0, 0)) := by rw [← hW1]; exact (Blk.new _ _ (by rw [World.size_alloc])).alloc _
  have b4 : Blk W1 (w.heap.size + 1 + 1) (.cells (snd 0 0 zsg zsg) 45 (0, 0)) := by rw [← hW1]; exact Blk.new _ _ (by rw [World.size_alloc, World.size_alloc])
  have e1 : Ext w W1 := by rw [← hW1]; exact (((Ext.refl w).alloc _).alloc _).alloc _
  obtain ⟨g2, hg2⟩ : ∃ g, w.heap.size = g := ⟨_, rfl⟩
  rw [hg2] at b2 b3 b4
  have B2 := Lib.hid b2; have B3 := Lib.hid b3; have B4 := Lib.hid b4; have E1 := Lib.hid e1; have HG := Lib.hid hg2
  have c0 := b2.cell 0; have c1 := b2.cell 1; have c2 := b2.cell 2; have c3 := b2.cell 3
  clear b2 b3 b4 e1
  refine calls_marks Try.func19 rfl ?_
  simp only [Try.ntmps19, List.size_toArray, List.length_cons, List.length_nil, Nat.reduceAdd, Nat.reduceSub, Array.replicate_succ, Array.replicate_zero, List.push_toArray, List.append_toArray, List.nil_append, List.cons_append]
  go_wp2_with fail
  refine (acheck1_is gd cd gs cs x hx _ (E1.out.cell hd) (E1.out.cell hs)).mono ?_
  rintro e w2 ⟨rfl, hE2⟩
  have D2 := Lib.hid (B2.out.ext hE2); have D3 := Lib.hid (B3.out.ext hE2); have D4 := Lib.hid (B4.out.ext hE2); have E2 := Lib.hid (E1.out.trans hE2)
  clear hE2 B2 B3 B4 E1 c0 c1 c2 c3 hW1
  have c30 := D3.out.cell 0
  go_wp2_with fail
  refine (within_is 0 (by omega) (by omega) _).mono ?_
  rintro e w3 ⟨rfl, rfl⟩
  clear c30
  have c3 := D2.out.cell 3
  go_wp2_with fail
  refine (clone1i_is gs cs _ (E2.out.cell hs)).mono ?_
  rintro e w4 ⟨gr, cr, rfl, hown, hE4⟩
  obtain ⟨g6, hg6⟩ : ∃ g, w4.heap.size = g := ⟨_, rfl⟩
  obtain ⟨W6, hW6⟩ : ∃ W, (w4.alloc (.cells #[.slice (some ⟨gr, 0, none⟩) 1 cr] 43)).alloc (.cells #[.slice none 0 0] 49) = W := ⟨_, rfl⟩
  have e6 : Ext w4 W6 := by rw [← hW6]; exact ((Ext.refl w4).alloc _).alloc _
  have b6 : Blk W6 g6 (.cells #[.slice (some ⟨gr, 0, none⟩) 1 cr] 43 (0, 0)) := by rw [← hW6]; exact (Blk.new w4 _ hg6.symm).alloc _
  have b7 : Blk W6 (g6 + 1) (.cells #[.slice none 0 0] 49 (0, 0)) := by rw [← hW6]; exact Blk.new _ _ (by rw [World.size_alloc, hg6])
  have hgr : g2 + 1 + 1 < gr := by have h1 := (own_blk hown (g := gr) rfl).1; have h2 := D4.out.lt; omega
  have hgr6 : gr < g6 := by obtain ⟨-, cur, hb⟩ := own_blk hown (g := gr) rfl; have := hb.lt; omega
  obtain ⟨cur, hcur, hcs⟩ : ∃ cur, Blk W6 gr (.cells cur 3 (0, 0)) ∧ 1 ≤ cur.size := by
    rcases hown.2 with ⟨h, -⟩ | ⟨g', cap, cur, h, -, hb, h1, -, h2, -⟩
    · cases h
    · cases h
      exact ⟨cur, e6.block hb, by omega⟩
  have b2 := (D2.out.ext hE4).ext e6; have b3 := (D3.out.ext hE4).ext e6; have b4 := (D4.out.ext hE4).ext e6
  have eA := E2.out.trans (hE4.trans e6)
  have hgs : gs < g2 := by have := cell_lt hs; have := HG.out; simp at *; omega
  have hgd : gd < g2 := by have := cell_lt hd; have := HG.out; simp at *; omega
  have C2 := Lib.hid b2; have C3 := Lib.hid b3; have C4 := Lib.hid b4; have C6 := Lib.hid b6; have C7 := Lib.hid b7; have CR := Lib.hid hcur; have CS := Lib.hid hcs; have EA := Lib.hid eA
  have c20 := b2.cell 0; have c21 := b2.cell 1; have c22 := b2.cell 2; have c23 := b2.cell 3; have c30 := b3.cell 0
  clear e6 b2 b3 b4 b6 b7 hcur hcs eA hown hE4 D2 D3 D4 E2 c3
  go_wp2_with fail
  refine (due_any _ _).mono ?_
  rintro e w7 ⟨rfl, hw7⟩
  obtain ⟨ga, hga⟩ : ∃ g, W6.heap.size = g := ⟨_, rfl⟩
  have ba : Blk w7 ga (.cells (snd 0 1 (.slice (some ⟨gd, 0, none⟩) 1 cd) (.slice (some ⟨gs, 0, none⟩) 1 cs)) 45 (0, 0)) := by rw [hw7]; exact (Blk.new W6 _ hga.symm).alloc _
  have bb : Blk w7 (ga + 1) (.cells #[.int .i64 0] 3 (0, 0)) := by rw [hw7]; exact Blk.new _ _ (by rw [World.size_alloc, hga])
  have e7 : Ext W6 w7 := by rw [hw7]; exact ((Ext.refl W6).alloc _).alloc _
  have hga6 : g6 + 1 < ga := by rw [← hga]; exact C7.out.lt
  have G2 := Lib.hid (C2.out.ext e7); have G3 := Lib.hid (C3.out.ext e7); have G4 := Lib.hid (C4.out.ext e7); have G6 := Lib.hid (C6.out.ext e7); have G7 := Lib.hid (C7.out.ext e7); have GR := Lib.hid (CR.out.ext e7); have GE := Lib.hid (EA.out.trans e7); have GA := Lib.hid ba; have GB := Lib.hid bb
  rw [hga]
  clear ba bb e7 hw7 hga C2 C3 C4 C6 C7 CR EA c20 c21 c22 c23 c30 hW6 hg6
  obtain ⟨X, hX⟩ : ∃ X : Nat → Prop, X = fun g => g = gr ∨ g = g6 + 1 := ⟨_, rfl⟩
  have hXi : ∀ g, X g ↔ (g = gr ∨ g = g6 + 1) := fun g => by rw [hX]
  have hlw : w.heap.size = g2 := HG.out
  have hit := due_iter ga (ga + 1) gd cd gs cs X w7 (fun W hv => ⟨GA.out.lv hv (fun h => by rcases (hXi _).1 h with h | h <;> omega), GB.out.lv hv (fun h => by rcases (hXi _).1 h with h | h <;> omega), by
    have h1 := GE.out.cell hs
    rw [hv.cell (g := gs) (cell_lt h1) (fun h => by rcases (hXi _).1 h with h | h <;> omega)]
    exact h1⟩)
  have HIT := Lib.hid hit; have HXI := Lib.hid hXi
  clear hit hXi hX
  go_wp2_with fail
  generalize hA : Act.mk _ _ = a0
  refine wp_of_In (wpIn_range2 (gf := 48) (by rw [← hA]; rfl) (enters_of Try.func48 (by kernel_rfl) rfl) HIT.out (fun x vs S W h => by rw [show vs = _ from h]; rfl) (fun x vs S W W' h _ => h) (fun x vs S S' W h _ => h) (fun g h => h.elim)
    (fun pre S W => ∃ v : Value, (∀ g, S g ↔ (g = gr ∨ g = g6 + 1)) ∧ Blk W (g6 + 1) (.cells #[v] 49 (0, 0)) ∧ (∃ cur, Blk W gr (.cells cur 3 (0, 0)) ∧ 1 ≤ cur.size) ∧ Lv X w7 W ∧ (pre = [] → v = zsg) ∧ (pre ≠ [] → ∃ p c, v = .slice p 1 c))
    (fun _ _ _ _ => False) ?hI (fun _ _ _ _ _ h _ => h.elim) X ?h0 ?hXl
    (fun S W e h => ⟨Lv.of_ext e, h⟩)
    (fun x vs W a₁ W' => a₁ = { tmps := (a0.tmps.setIfInBounds 24 (.int .i64 x)).setIfInBounds 8 (.int .i64 x), defers := [] } ∧ W' = W)
    (fun x vs W a₁ W' h => by rw [h.2]; exact Ext.refl W) ?assign ?body ?done (fun _ _ _ _ _ _ _ _ h _ => h.elim))
  case hI =>
    rintro pre S W W' ⟨v, hS, e1, ⟨cur, e2, e3⟩, e4, e5⟩ hv
    exact ⟨v, hS, e1.lv hv (fun h => h.elim id (fun h => e1.nc h.2)), ⟨cur, e2.lv hv (fun h => h.elim id (fun h => e2.nc h.2)), e3⟩, e4.trans hv (fun g hg h => h.elim False.elim (fun h => by omega)), e5⟩
  case h0 => exact ⟨zsg, HXI.out, G7.out, ⟨_, GR.out, CS.out⟩, Lv.refl _ _, fun _ => rfl, fun h => absurd rfl h⟩
  case hXl =>
    intro g h
    rcases (HXI.out g).1 h with h | h
    · rw [h]; exact GR.out.lt
    · rw [h]; exact G7.out.lt
  case assign =>
    rintro ll x vs S W K rfl hK
    subst hA
    have HKA := Lib.hid hK; clear hK
    gi_wp2
    exact HKA.out _ _ ⟨rfl, rfl⟩
  case body =>
    rintro ll pre x vs S W0 W' W a₁ ⟨rfl, rfl⟩ hle0 hvb ⟨v, hS, e1, ⟨cur, e2, e3⟩, e4, e5, e6⟩ hleW hpx henc
    obtain ⟨rfl, rfl⟩ : pre = [] ∧ x = 0 := by
      match pre, hpx with
      | [], h => exact ⟨rfl, by simpa using h⟩
      | y :: r, h => have := h.length_le; simp at this
    obtain rfl := e5 rfl
    have hE := GE.out.lvx e4 HXI.out (by omega) (by omega)
    have k2 := G2.out.lv e4 (fun h => by rcases (HXI.out _).1 h with h | h <;> omega)
    have k3 := G3.out.lv e4 (fun h => by rcases (HXI.out _).1 h with h | h <;> omega)
    have k6 := G6.out.lv e4 (fun h => by rcases (HXI.out _).1 h with h | h <;> omega)
    have hdW : W.cell? ⟨gd, 0, none⟩ = some (sv x) := by
      have h1 := GE.out.cell hd
      rw [e4.cell (g := gd) (cell_lt h1) (fun h => by rcases (HXI.out _).1 h with h | h <;> omega)]
      exact h1
    subst hA
    obtain ⟨y, hy⟩ : ∃ y, cur[0]? = some y := ⟨_, Array.getElem?_eq_getElem e3⟩
    have cr0 : W.cell? ⟨gr, 0, none⟩ = some y := (e2.cell 0).trans hy
    have fr0 : W.frozen? ⟨gr, 0, none⟩ = false := e2.free 0
    have c60 := k6.cell 0; have c30 := k3.cell 0
    obtain ⟨W8, hW8⟩ : ∃ V, W.setCell ⟨gr, 0, none⟩ (.int .i64 0) = V := ⟨_, rfl⟩
    have l8 : Lv (fun n => n = gr) W W8 := hW8 ▸ Lv.setCell (S := fun n => n = gr) (p := ⟨gr, 0, none⟩) (Lv.refl _ W) (fun _ => rfl) _
    have r8 : Blk W8 gr (.cells (cur.setIfInBounds 0 (.int .i64 0)) 3 (0, 0)) := hW8 ▸ e2.setCell 0 _
    have m2 := k2.lv l8 (by omega); have m7 := e1.lv l8 (by omega)
    have hd8 : W8.cell? ⟨gd, 0, none⟩ = some (sv x) := by rw [l8.cell (g := gd) (cell_lt hdW) (by omega)]; exact hdW
    have L8 := Lib.hid l8; have R8 := Lib.hid r8; have M2 := Lib.hid m2; have M7 := Lib.hid m7; have HD8 := Lib.hid hd8; have E4 := Lib.hid e4; have HS := Lib.hid hS; have E3 := Lib.hid e3
    clear e1 e2 e3 e4 e5 e6 hS hy k2 k3 k6 hdW l8 r8 m2 m7 hd8 hE hle0 hvb hpx henc
    simp only [List.setIfInBounds_toArray, List.set_cons_zero, List.set_cons_succ]
    gi_wp2
    obtain ⟨inf, i1, i2, i3, i4⟩ := info_of infoFr
    clear cr0 fr0 c60 c30 hW8
    refine wpIn_region_Y 13 (fun V => Ext W8 V) (fun V => Ext W8 V) (by kernel_rfl) (by kernel_rfl) ?hLets (Ext.refl W8).drew (wpY_takes (by kernel_rfl) (fun _ d _ _ _ h => by cases d <;> exact h) (Stab.ext _) (fun _ h => h) (fuel := 3) [0,1,2,3,4,5,6,7,8,9,10] _ _ (by kernel_rfl) (by kernel_rfl) ?_)
    case hLets => exact fun ⟨_, _, h⟩ => h
    iterate 11
      refine wpTk_want rfl (Eq.refl true) ?_
      apply Exists.intro
      refine ⟨fun wx hx => ?_, ?_⟩
      · have c7 := (M7.out.ext hx).cell 0
        have c20 := (M2.out.ext hx).cell 0
        have c22 := (M2.out.ext hx).cell 2
        have cd0 := hx.cell HD8.out
        unfold sv at cd0
        clear hx
        go_simp
        with_reducible exact gives_ok _ _ _
      simp only [Act.put, List.setIfInBounds_toArray, List.set_cons_zero, List.set_cons_succ]
    refine wpTk_nil ?_
    refine wpY_push 11 12 (by kernel_rfl) rfl rfl (by kernel_rfl) rfl rfl (.tmp 29) (.tmp 40) 49 rfl W8.heap.size 83 inf _ 3 32 Try.underlying49 i1 i2 i3 i4 rfl (by decide) zsg 0 [] [.bool false, .int .i64 0, sv x] (fun wz => by unfold sv; go_simp; rfl) (fun g => by simp [Act.eval, Act.put]) (fun g => by simp [Act.eval, Act.put]) rfl (by simp [sv, Value.oneCell']) (by simp [maxLen]) (by simp) (Stab.ext _) (fun _ h => h) (fun _ h => ⟨World.ownsRow_nil _ _ _ _, h.size⟩) (fun g wx hX v2 wy hown hg hbk => ?_)
    obtain ⟨gn, cn, rfl⟩ := own_slice hown (by simp)
    refine ⟨fun V => Ext W8 V, Stab.ext _, fun _ _ h => h, hX.trans (Ext.grown (Ext.refl _) hg (fun k hk => by cases hk)), ?_⟩
    clear hX hown hg hbk wx wy
    rw [Nat.zero_add]
    simp only [Act.put, List.setIfInBounds_toArray, List.set_cons_zero, List.set_cons_succ]
    refine wpY_one 13 (by kernel_rfl) rfl rfl (fun wz hz K hK => ?_)
    have c7 := (M7.out.ext hz).cell 0
    have f7 := (M7.out.ext hz).free 0
    have b7 := (M7.out.ext hz).setCell 0 (.slice (some ⟨gn, 0, none⟩) 1 cn)
    have l7 : Lv (fun n => n = g6 + 1) W8 (wz.setCell ⟨g6 + 1, 0, none⟩ (.slice (some ⟨gn, 0, none⟩) 1 cn)) := (Lv.of_ext hz).trans (Lv.setCell (S := fun n => n = g6 + 1) (p := ⟨g6 + 1, 0, none⟩) (Lv.refl _ wz) (fun _ => rfl) _) (fun _ _ h => h)
    have b7' : Blk (wz.setCell ⟨g6 + 1, 0, none⟩ (.slice (some ⟨gn, 0, none⟩) 1 cn)) (g6 + 1) (.cells #[.slice (some ⟨gn, 0, none⟩) 1 cn] 49 (0, 0)) := b7
    go_simp
    refine hK _ _ ⟨fun V => Lv (fun n => n = g6 + 1) W8 V ∧ Blk V (g6 + 1) (.cells #[.slice (some ⟨gn, 0, none⟩) 1 cn] 49 (0, 0)), fun _ _ e h => ⟨h.1.ext e, h.2.ext e⟩, fun h => absurd rfl h, ⟨l7, b7'⟩, ?_⟩
    clear hK K hz c7 f7 b7 b7' l7 wz
    refine wpY_done (by kernel_rfl) (fun wz hz => ?_) _
    have r9 := R8.out.lv hz.1 (by omega)
    have l9 : Lv S W wz := (L8.out.mono (S' := S) (fun g _ h => (HS.out g).2 (.inl h))).trans (hz.1.mono (S' := S) (fun g _ h => (HS.out g).2 (.inr h))) (fun _ _ h => h)
    refine ⟨S, l9, fun g h => .inl h, fun g h => ?_, _, HS.out, hz.2, ⟨_, r9, by simpa using E3.out⟩, ?_, fun h => absurd h (by simp), fun _ => ⟨_, _, rfl⟩⟩
    · rcases (HS.out g).1 h with h | h
      · rw [h]; exact r9.lt
      · rw [h]; exact hz.2.lt
    · exact E4.out.trans l9 (fun g _ h => (HXI.out g).2 ((HS.out g).1 h))
  case done =>
    rintro D0 S W hD0 hnS ⟨v, hS, e1, ⟨cur, e2, e3⟩, e4, e5, e6⟩ hdef
    subst hA
    obtain ⟨p, c, rfl⟩ := e6 (by simp)
    have hE := GE.out.lvx e4 HXI.out (by omega) (by omega)
    have k2 := G2.out.lv e4 (fun h => by rcases (HXI.out _).1 h with h | h <;> omega)
    have k4 := G4.out.lv e4 (fun h => by rcases (HXI.out _).1 h with h | h <;> omega)
    have k6 := G6.out.lv e4 (fun h => by rcases (HXI.out _).1 h with h | h <;> omega)
    have hD : g2 + 1 + 1 < D0 := by have := G4.out.lt; omega
    have c60 := k6.cell 0; have c23 := k2.cell 3; have f23 := k2.free 3
    obtain ⟨W8, hW8⟩ : ∃ V, W.setCell ⟨g2, 3, none⟩ (.slice (some ⟨gr, 0, none⟩) 1 cr) = V := ⟨_, rfl⟩
    have l8 : Lv (fun n => n = g2) W W8 := hW8 ▸ Lv.setCell (S := fun n => n = g2) (p := ⟨g2, 3, none⟩) (Lv.refl _ W) (fun _ => rfl) _
    have m2 : Blk W8 g2 (.cells (snd 0 1 (.slice (some ⟨gd, 0, none⟩) 1 cd) (.slice (some ⟨gr, 0, none⟩) 1 cr)) 45 (0, 0)) := hW8 ▸ k2.setCell 3 _
    have m4 := k4.lv l8 (by omega); have m7 := e1.lv l8 (by omega)
    have d8 : W8.heap[D0]? = some (.deferred (some [])) := (l8.2 D0 (Array.getElem?_eq_some_iff.1 hdef).1 (by omega)).trans hdef
    have e8 := l8.extBelow hE (fun g hg h => by omega)
    have M2 := Lib.hid m2; have M4 := Lib.hid m4; have M7 := Lib.hid m7; have E8 := Lib.hid e8; have D8 := Lib.hid d8; have HD := Lib.hid hD
    clear k2 k4 k6 e1 e2 e3 e4 e5 e6 hE hS hdef hD0 hnS l8 m2 m4 m7 d8 e8 hD
    go_wp2_with fail
    clear c60 c23 f23 hW8
    obtain ⟨Wd, hWd⟩ : ∃ V, W8.drew = V := ⟨_, rfl⟩
    have xd : Ext W8 Wd := hWd ▸ (Ext.refl W8).drew
    have n2 := M2.out.ext xd; have n4 := M4.out.ext xd; have n7 := M7.out.ext xd
    have c0 := n2.cell 0; have c1 := n2.cell 1; have c2 := n2.cell 2; have c3 := n2.cell 3; have c7 := n7.cell 0
    have f0 := n4.free 0; have d0 := n4.cell 0
    have lv0 : ∀ (W : World) (i : Nat) (v : Value), Lv (fun n => n = g2 + 1 + 1) W (W.setCell ⟨g2 + 1 + 1, i, none⟩ v) := fun W i v => Lv.setCell (S := fun n => n = g2 + 1 + 1) (p := ⟨g2 + 1 + 1, i, none⟩) (Lv.refl _ W) (fun _ => rfl) _
    have b0 := n4.setCell 0 (.int .i64 0); have l0 := lv0 Wd 0 (.int .i64 0)
    obtain ⟨V0, hV0⟩ : ∃ V, Wd.setCell ⟨g2 + 1 + 1, 0, none⟩ (.int .i64 0) = V := ⟨_, rfl⟩
    rw [hV0] at b0 l0
    have f1 := b0.free 1; have d1 := b0.cell 1
    have b1 := b0.setCell 1 (.int .i64 1); have l1 := lv0 V0 1 (.int .i64 1)
    obtain ⟨V1, hV1⟩ : ∃ V, V0.setCell ⟨g2 + 1 + 1, 1, none⟩ (.int .i64 1) = V := ⟨_, rfl⟩
    rw [hV1] at b1 l1
    have f2 := b1.free 2; have d2 := b1.cell 2
    have b2 := b1.setCell 2 (.slice (some ⟨gd, 0, none⟩) 1 cd); have l2 := lv0 V1 2 (.slice (some ⟨gd, 0, none⟩) 1 cd)
    obtain ⟨V2, hV2⟩ : ∃ V, V1.setCell ⟨g2 + 1 + 1, 2, none⟩ (.slice (some ⟨gd, 0, none⟩) 1 cd) = V := ⟨_, rfl⟩
    rw [hV2] at b2 l2
    have f3 := b2.free 3; have d3 := b2.cell 3
    have b3 := b2.setCell 3 (.slice (some ⟨gr, 0, none⟩) 1 cr); have l3 := lv0 V2 3 (.slice (some ⟨gr, 0, none⟩) 1 cr)
    obtain ⟨wz, hV3⟩ : ∃ V, V2.setCell ⟨g2 + 1 + 1, 3, none⟩ (.slice (some ⟨gr, 0, none⟩) 1 cr) = V := ⟨_, rfl⟩
    rw [hV3] at b3 l3
    have hl := ((((Lv.of_ext (S := fun n => n = g2 + 1 + 1) xd).trans l0 (fun _ _ h => h)).trans l1 (fun _ _ h => h)).trans l2 (fun _ _ h => h)).trans l3 (fun _ _ h => h)
    have c7z := (M7.out.lv hl (by omega)).cell 0
    have b3' : Blk wz (g2 + 1 + 1) (.cells (snd 0 1 (.slice (some ⟨gd, 0, none⟩) 1 cd) (.slice (some ⟨gr, 0, none⟩) 1 cr)) 45 (0, 0)) := b3
    have dz : wz.heap[D0]? = some (.deferred (some [])) := (hl.2 D0 (Array.getElem?_eq_some_iff.1 D8.out).1 (by have := HD.out; omega)).trans D8.out
    have lvd : Lv (fun g => g = D0) wz (wz.putObj D0 (.deferred none)) := Lv.putObj (S := fun g => g = D0) (Lv.refl _ _) (fun _ => rfl) _
    have bz := b3'.lv lvd (by have := HD.out; omega)
    have ez := lvd.extBelow (hl.extBelow E8.out (fun g hg h => by omega)) (fun g hg h => by have := HD.out; omega)
    have BZ := Lib.hid bz; have EZ := Lib.hid ez; have DZ := Lib.hid dz
    clear dz lvd bz ez b0 b1 b2 b3 b3' l0 l1 l2 l3 lv0 hl n2 n4 n7 xd
    go_region
    all_goals
      go_wp2_with fail
      refine ⟨by simp, .inl ⟨_, _, rfl, run_takeDeferred DZ.out, ?_⟩⟩
      have r0 := BZ.out.cell 0; have r1 := BZ.out.cell 1; have r2 := BZ.out.cell 2; have r3 := BZ.out.cell 3
      refine ⟨.tuple #[.agg (snd 0 1 (.slice (some ⟨gd, 0, none⟩) 1 cd) (.slice (some ⟨gr, 0, none⟩) 1 cr)), .slice p 1 c], results_cell2 (A := ⟨g2 + 1 + 1, 0, none⟩) rfl rfl ?_ rfl, gr, cr, p, c, rfl, EZ.out⟩
      clear BZ EZ DZ hV0 hV1 hV2 hV3
      go_simp
end Go.Proofs.Ytmmcjcaccicheaa

/- Pairs in memory; contract: the reference's list. -/
import Derived.Test.YtbjniaihkllmdaaTrOps2
import Derived.Test.YtbjniaihkllmdaaHiApp
namespace Go.Proofs.Ytbjniaihkllmdaa
open Go.RowKit

theorem flat_len {α : Type} {f : α → List Value} {k : Nat} (hf : ∀ x, (f x).length = k) : ∀ l : List α, (l.flatMap f).length = l.length * k
  | [] => by simp
  | x :: l => by rw [List.flatMap_cons, List.length_append, hf, flat_len hf l, List.length_cons, Nat.add_mul]; omega
theorem flat_get {α : Type} {f : α → List Value} {k : Nat} (hf : ∀ x, (f x).length = k) : ∀ (l : List α) (i j : Nat) (x : α), l[i]? = some x → j < k → (l.flatMap f)[i * k + j]? = (f x)[j]?
  | [], i, j, x, h, _ => by simp at h
  | y :: l, 0, j, x, h, hj => by
    obtain rfl : y = x := by simpa using h
    rw [List.flatMap_cons, Nat.zero_mul, Nat.zero_add, List.getElem?_append_left (by rw [hf]; exact hj)]
  | y :: l, i + 1, j, x, h, hj => by
    rw [List.flatMap_cons, List.getElem?_append_right (by rw [hf, Nat.add_mul]; omega), hf]
    rw [show (i + 1) * k + j - k = i * k + j by rw [Nat.add_mul]; omega]
    exact flat_get hf l i j x (by simpa using h) hj

/-- A pair. -/
structure Pr where
  k : ByteArray
  v : ByteArray
deriving DecidableEq
def Pr.cells (p : Pr) : List Value := [.string p.k, .string p.v]
abbrev Pr.obj (p : Pr) : Obj := .cells #[.string p.k, .string p.v] 34
def Pr.wf (p : Pr) : Prop := p.k.size ≤ Reach ∧ p.v.size ≤ Reach
theorem pr_cells_len (p : Pr) : p.cells.length = 2 := rfl
theorem one_pr (ps : List Pr) : ∀ u ∈ ps.flatMap Pr.cells, u.oneCell' = true := by
  intro u hu
  obtain ⟨p, _, hp⟩ := List.mem_flatMap.1 hu
  simp only [Pr.cells, List.mem_cons, List.not_mem_nil, or_false] at hp
  rcases hp with rfl | rfl <;> rfl
/-- From address A on lie the n pairs l. -/
def Prs (w : World) (A : Option Addr) (n : Nat) (l : List Pr) : Prop := l.length = n ∧ (∀ p ∈ l, p.wf) ∧ Cells w A (l.flatMap Pr.cells)
section
variable {w w' : World} {A : Option Addr} {n : Nat} {l : List Pr}
theorem Prs.ext (h : Prs w A n l) (e : Ext w w') : Prs w' A n l := ⟨h.1, h.2.1, h.2.2.ext e⟩
theorem Prs.nil (w : World) (A : Option Addr) : Prs w A 0 [] := ⟨rfl, by simp, Cells.nil _ _⟩
theorem Prs.get (h : Prs w A n l) {j : Nat} (hj : j < n) : ∃ b off p, A = some ⟨b, off, none⟩ ∧ b < w.heap.size ∧ l[j]? = some p ∧ p.wf ∧ w.cell? ⟨b, off + j * 2, none⟩ = some (.string p.k) ∧ w.cell? ⟨b, off + j * 2 + 1, none⟩ = some (.string p.v) := by
  have hl : j < l.length := by rw [h.1]; exact hj
  have hlf := flat_len pr_cells_len l
  obtain ⟨b, off, h1, h2, h3⟩ := h.2.2.get (k := j * 2) (by rw [hlf]; omega)
  have hx : l[j]? = some l[j] := List.getElem?_eq_getElem hl
  have g := fun i hi => flat_get pr_cells_len l j i _ hx hi
  refine ⟨b, off, l[j], h1, h2, hx, h.2.1 _ (List.getElem_mem hl), ?_, ?_⟩
  · have := h3 (j * 2 + 0) (.string l[j].k) (by rw [g 0 (by omega)]; rfl); simpa using this
  · have := h3 (j * 2 + 1) (.string l[j].v) (by rw [g 1 (by omega)]; rfl); simpa [Nat.add_assoc] using this
end
theorem ownP_prs {w : World} {base n : Nat} {v : Value} {l : List Pr} (h : w.ownsRow base 34 2 v n (l.flatMap Pr.cells)) (hs : ∀ p ∈ l, p.wf) : ∃ A c, v = .slice A n c ∧ n ≤ c ∧ Prs w A n l := by
  have hl : l.length = n := by have := h.1; rw [flat_len pr_cells_len] at this; omega
  have hc := fun g hg => h.cells (g := g) hg
  rcases h.2 with ⟨rfl, rfl⟩ | ⟨g, cap, cur, rfl, hb, hgg, hnc, _⟩
  · obtain rfl : l = [] := List.eq_nil_of_length_eq_zero hl
    exact ⟨none, 0, rfl, Nat.le_refl _, Prs.nil _ _⟩
  · exact ⟨_, _, rfl, hnc, hl, hs, Cells.of_add _ (hc g rfl)⟩
theorem infoP : (Try.prog.info? 34).map (fun i => (i.zero, i.size, i.bytes)) = some (some (.agg #[.string ⟨#[]⟩, .string ⟨#[]⟩]), 2, 32) := by kernel_rfl
theorem underP : Try.prog.underlying 31 = some (.slice 34) := by kernel_rfl
theorem own_new2 (w : World) (t : TypeId) : (w.alloc (.cells #[] t)).ownsRow w.heap.size t 2 (.slice (some ⟨w.heap.size, 0, none⟩) 0 0) 0 [] :=
  ⟨rfl, .inr ⟨w.heap.size, 0, #[], rfl, Nat.le_refl _, heap_alloc_new w _, Nat.le_refl _, by simp [maxLen], rfl, rfl⟩⟩

/-- The pairs of a tree, in order. -/
def prsV : BT → List Pr
  | .leaf => []
  | .node l k v r => prsV l ++ [⟨k, v⟩] ++ prsV r
theorem prs_len : ∀ b : BT, (prsV b).length = b.size
  | .leaf => rfl
  | .node l k v r => by simp only [prsV, List.length_append, List.length_singleton, prs_len l, prs_len r, BT.size]; omega
theorem Row.sizes {w : World} : ∀ {b : BT} {g off : Nat}, Row w b.mt g off → ∀ p ∈ prsV b, p.wf
  | .leaf, _, _, _, p, hp => by simp [prsV] at hp
  | .node l k v r, g, off, h, p, hp => by
    obtain ⟨h0, _, _, ⟨A, n, c, _, _, a3, a4⟩, ⟨B, m, d, _, _, b3, b4⟩, _⟩ := h
    simp only [prsV, List.mem_append, List.mem_singleton] at hp
    rcases hp with (hp | rfl) | hp
    · rcases a4 with a4 | ⟨b1, o1, _, _, p3⟩
      · have : l = .leaf := by cases l with
          | leaf => rfl
          | node => simp [BT.mt, MT.len] at a3; omega
        subst this; simp [prsV] at hp
      · exact Row.sizes p3 p hp
    · exact h0
    · rcases b4 with b4 | ⟨b1, o1, _, _, p3⟩
      · have : r = .leaf := by cases r with
          | leaf => rfl
          | node => simp [BT.mt, MT.len] at b3; omega
        subst this; simp [prsV] at hp
      · exact Row.sizes p3 p hp
theorem BAt.sizes {w : World} {b : BT} {A : Option Addr} {n : Nat} (h : BAt w b A n) : ∀ p ∈ prsV b, p.wf := by
  obtain ⟨_, h1, h2⟩ := h
  rcases h2 with h2 | ⟨g, off, _, _, h3⟩
  · have : b = .leaf := by cases b with
      | leaf => rfl
      | node => simp [BT.mt, MT.len] at h1; omega
    subst this; intro p hp; simp [prsV] at hp
  · exact h3.sizes

set_option maxRecDepth 100000 in
set_option maxHeartbeats 8000000 in
theorem rlist_any : ∀ (t : BT) (A : Option Addr) (n c : Nat) (w : World), BAt w t A n → t.size ≤ 1000 → Calls Try.prog 50 #[.slice A n c] w fun e w' => ∃ v, e = .returned v ∧ w'.ownsRow w.heap.size 34 2 v (prsV t).length ((prsV t).flatMap Pr.cells) ∧ Ext w w'
  | .leaf, A, n, c, w, hm, _ => by
    obtain rfl := hm.leaf
    clear hm
    go_enter Try.func50, Try.ntmps50
    go_wp2_with fail
    go_ret
    exact ⟨_, rfl, own_new2 w _, (Ext.refl w).alloc _⟩
  | .node l k v r, A, n, c, w, hm, hsz => by
    have IHL := rlist_any l
    have IHR := rlist_any r
    have hwf := hm.sizes
    obtain ⟨b, off, Al, nl, cl, Ar, nr, cr, rfl, rfl, hb, hks, c0, c1, c2, c3, hl, hr⟩ := hm.node
    simp only [BT.size] at hsz
    obtain ⟨inf, i1, i2, i3, i4⟩ := info_of infoP
    have I1 := Lib.hid i1; have I2 := Lib.hid i2; have I3 := Lib.hid i3; have I4 := Lib.hid i4; clear i1 i2 i3 i4
    obtain ⟨L1, hL1⟩ : ∃ L1, prsV l = L1 := ⟨_, rfl⟩
    obtain ⟨L2, hL2⟩ : ∃ L2, prsV r = L2 := ⟨_, rfl⟩
    have hl1 : L1.length = l.size := by rw [← hL1]; exact prs_len l
    have hl2 : L2.length = r.size := by rw [← hL2]; exact prs_len r
    have hl12 : L1.length + L2.length + 1 ≤ 1000 := by omega
    clear hl1 hl2
    have hpv : prsV (.node l k v r) = L1 ++ [⟨k, v⟩] ++ L2 := by rw [prsV, hL1, hL2]
    have hw2 : ∀ p ∈ L2, p.wf := fun p hp => hwf p (by rw [hpv]; simp [hp])
    have HL := Lib.hid hl; have HR := Lib.hid hr; have HIL := Lib.hid IHL; have HIR := Lib.hid IHR; have HL1 := Lib.hid hL1; have HL2 := Lib.hid hL2; have HPV := Lib.hid hpv; have HW2 := Lib.hid hw2
    have C0 := Lib.hid c0; have C1 := Lib.hid c1; have C2 := Lib.hid c2; have C3 := Lib.hid c3
    clear hl hr IHL IHR hL1 hL2 hpv hw2 hwf hks hm c0 c1 c2 c3
    go_enter Try.func50, Try.ntmps50
    go_wp2_with fail
    obtain ⟨T, hT⟩ : ∃ T, T = (fun wx => Ext w wx) := ⟨_, rfl⟩
    have hTs : Stab T := by rw [hT]; exact Stab.ext _
    refine wp_region_X (T := T) T (by kernel_rfl) (by rw [hT]; exact (Ext.refl w).drew) (wpX_takes (by kernel_rfl) (fun _ d _ _ _ h => by cases d <;> exact h) hTs (fun _ h => h) (fuel := 4) [0,1,2,3,5,6,7,8,9,10,11,12,13] _ _ (by kernel_rfl) ?_)
    iterate 13
      refine wpTk_want rfl (Eq.refl true) ?_
      apply Exists.intro
      refine ⟨fun wx hx => ?_, ?_⟩
      · rw [hT] at hx
        have d0 := hx.cell C0.out; have d1 := hx.cell C1.out; have d2 := hx.cell C2.out
        clear hx
        go_simp
        with_reducible exact gives_ok _ _ _
      simp only [Act.put, List.setIfInBounds_toArray, List.set_cons_zero, List.set_cons_succ]
    refine wpTk_nil ?_
    refine wpX_two 4 14 (by kernel_rfl) rfl rfl rfl rfl ?_ ?_
    · intro wx hx K hK
      rw [hT] at hx
      go_simp
      refine (HIL.out Al nl cl wx (HL.out.ext hx) (by omega)).mono ?_
      rintro e wy ⟨v1, rfl, ho, hE⟩
      rw [HL1.out] at ho
      refine hK _ _ ⟨fun wz => Ext w wz ∧ wz.ownsRow w.heap.size 34 2 v1 L1.length (L1.flatMap Pr.cells), (Stab.ext _).and (fun _ _ e h => own_stab3 e h), (fun _ h => by rw [hT]; exact h.1), ⟨hx.trans hE, own_base ho hx.size⟩, ?_⟩
      clear hK K hx ho hE wx wy
      rw [hT]
      refine wpX_push 14 15 (by kernel_rfl) rfl rfl (by kernel_rfl) rfl rfl (.tmp 12) (.tmp 22) 31 rfl w.heap.size 34 inf _ 2 32 underP I1.out I2.out I3.out I4.out rfl (by decide) v1 L1.length (L1.flatMap Pr.cells) (Pr.cells ⟨k, v⟩)
        (fun wz => by go_simp; rfl) (fun g => by simp [Act.eval, Act.put]) (fun g => by simp [Act.eval, Act.put]) rfl (by simp [Pr.cells, Value.oneCell']) (by simp only [maxLen]; omega) (by omega) ((Stab.ext _).and (fun _ _ e h => own_stab3 e h)) (fun _ h => h.1) (fun _ h => ⟨h.2, h.1.size⟩) (fun g wx hX v2 wy hown hg => ?_)
      refine ⟨fun wz => Ext w wz ∧ wz.ownsRow w.heap.size 34 2 v2 (L1.length + 1) (L1.flatMap Pr.cells ++ Pr.cells ⟨k, v⟩), (Stab.ext _).and (fun _ _ e h => own_stab3 e h), (fun _ h => h.1), ⟨hX.1.own3 hX.2 hg, hown⟩, ?_⟩
      clear hX hown hg wx wy
      simp only [Act.put, List.setIfInBounds_toArray, List.set_cons_zero, List.set_cons_succ]
      refine wpX_one 16 (by kernel_rfl) rfl rfl (fun wz hz K hK => ?_)
      go_simp
      refine hK _ _ ⟨fun wz => Ext w wz ∧ wz.ownsRow w.heap.size 34 2 v2 (L1.length + 1) (L1.flatMap Pr.cells ++ Pr.cells ⟨k, v⟩), (Stab.ext _).and (fun _ _ e h => own_stab3 e h), (fun _ h => h.1), hz, ?_⟩
      clear hK K hz wz
      refine wpX_done (by kernel_rfl) (fun w2 hz => ?_) _
      have HE2 := Lib.hid hz.1; have HO2 := Lib.hid hz.2
      have c0 := hz.1.cell C0.out; have c1 := hz.1.cell C1.out; have c2 := hz.1.cell C2.out; have c3 := hz.1.cell C3.out
      have hlt : b < w2.heap.size := Nat.lt_of_lt_of_le hb hz.1.size
      clear hz
      go_wp2_with fail
      refine (HIR.out Ar nr cr _ (HR.out.ext HE2.out) (by omega)).mono ?_
      rintro e w3 ⟨v3, rfl, ho, hE⟩
      rw [HL2.out] at ho
      obtain ⟨A3, c3', rfl, -, hM3⟩ := ownP_prs ho HW2.out
      have HE3 := Lib.hid (HE2.out.trans hE); have HO3 := Lib.hid (own_stab3 hE HO2.out); have HM3 := Lib.hid hM3; clear ho hE hM3 c0 c1 c2 c3
      go_wp2_with (at_builtin; refine wpList_append_size2 rfl (.tmp 24) (.tmp 29) 31 rfl w.heap.size 34 inf _ 2 32 underP I1.out I2.out I3.out I4.out rfl (by decide) v2 (L1.length + 1) _ A3 L2.length c3' (L2.flatMap Pr.cells) rfl (by simp [Act.eval]) (by rw [flat_len pr_cells_len]) (one_pr _) (by simp only [maxLen]; omega) (by omega) HO3.out HM3.out.2.2 HE3.out.size ?_; intro v6 w6 hown hg hbk; have HO6 := Lib.hid hown; have HE6 := Lib.hid (HE3.out.own3 HO3.out hg); clear hown hg hbk)
      go_ret
      refine ⟨_, rfl, ?_, HE6.out⟩
      have h9 := HO6.out
      rw [HPV.out]
      simp only [List.length_append, List.length_singleton, List.flatMap_append, List.flatMap_cons, List.flatMap_nil, List.append_nil]
      exact h9
    · intro wx hx K hK
      rw [hT] at hx
      go_simp
      refine hK _ _ ⟨fun wz => Ext w wz ∧ Blk wz wx.heap.size (Pr.obj ⟨k, v⟩), (Stab.ext _).and (Stab.blk _ _), (fun _ h => by rw [hT]; exact h.1), ⟨hx.alloc _, Blk.new wx _ rfl⟩, ?_⟩
      obtain ⟨g0, hg0⟩ : ∃ g0, g0 = wx.heap.size := ⟨_, rfl⟩
      rw [← hg0]
      clear hK K hx hg0 wx
      refine wpX_one 4 (by kernel_rfl) rfl rfl (fun wx hx K hK => ?_)
      go_simp
      refine (HIL.out Al nl cl wx (HL.out.ext hx.1) (by omega)).mono ?_
      rintro e wy ⟨v1, rfl, ho, hE⟩
      rw [HL1.out] at ho
      refine hK _ _ ⟨fun wz => (Ext w wz ∧ Blk wz g0 (Pr.obj ⟨k, v⟩)) ∧ wz.ownsRow w.heap.size 34 2 v1 L1.length (L1.flatMap Pr.cells), ((Stab.ext _).and (Stab.blk _ _)).and (fun _ _ e h => own_stab3 e h), (fun _ h => by rw [hT]; exact h.1.1), ⟨⟨hx.1.trans hE, hx.2.ext hE⟩, own_base ho hx.1.size⟩, ?_⟩
      clear hK K hx ho hE wx wy
      rw [hT]
      refine wpX_append_size 15 (by kernel_rfl) rfl rfl (.tmp 12) (.tmp 22) 31 rfl w.heap.size 34 inf _ 2 32 underP I1.out I2.out I3.out I4.out rfl (by decide) v1 L1.length (L1.flatMap Pr.cells) (some ⟨g0, 0, none⟩) 1 1 (Pr.cells ⟨k, v⟩) rfl rfl rfl (by simp [Pr.cells, Value.oneCell']) (by simp only [maxLen]; omega) (by omega)
        (fun wx hx => ⟨hx.2, .inr ⟨_, 0, rfl, fun j u hu => by rw [hx.1.2.cell]; simpa [Pr.cells] using hu⟩, hx.1.1.size⟩) (fun wx hx v2 wy hown hg => ?_)
      refine ⟨fun wz => Ext w wz ∧ wz.ownsRow w.heap.size 34 2 v2 (L1.length + 1) (L1.flatMap Pr.cells ++ Pr.cells ⟨k, v⟩), (Stab.ext _).and (fun _ _ e h => own_stab3 e h), (fun _ h => h.1), ⟨hx.1.1.own3 hx.2 hg, hown⟩, ?_⟩
      clear hx hown hg wx wy
      refine wpX_one 16 (by kernel_rfl) rfl rfl (fun wz hz K hK => ?_)
      go_simp
      refine hK _ _ ⟨fun wz => Ext w wz ∧ wz.ownsRow w.heap.size 34 2 v2 (L1.length + 1) (L1.flatMap Pr.cells ++ Pr.cells ⟨k, v⟩), (Stab.ext _).and (fun _ _ e h => own_stab3 e h), (fun _ h => h.1), hz, ?_⟩
      clear hK K hz wz
      refine wpX_done (by kernel_rfl) (fun w2 hz => ?_) _
      have HE2 := Lib.hid hz.1; have HO2 := Lib.hid hz.2
      have c0 := hz.1.cell C0.out; have c1 := hz.1.cell C1.out; have c2 := hz.1.cell C2.out; have c3 := hz.1.cell C3.out
      have hlt : b < w2.heap.size := Nat.lt_of_lt_of_le hb hz.1.size
      clear hz
      go_wp2_with fail
      refine (HIR.out Ar nr cr _ (HR.out.ext HE2.out) (by omega)).mono ?_
      rintro e w3 ⟨v3, rfl, ho, hE⟩
      rw [HL2.out] at ho
      obtain ⟨A3, c3', rfl, -, hM3⟩ := ownP_prs ho HW2.out
      have HE3 := Lib.hid (HE2.out.trans hE); have HO3 := Lib.hid (own_stab3 hE HO2.out); have HM3 := Lib.hid hM3; clear ho hE hM3 c0 c1 c2 c3
      go_wp2_with (at_builtin; refine wpList_append_size2 rfl (.tmp 24) (.tmp 29) 31 rfl w.heap.size 34 inf _ 2 32 underP I1.out I2.out I3.out I4.out rfl (by decide) v2 (L1.length + 1) _ A3 L2.length c3' (L2.flatMap Pr.cells) rfl (by simp [Act.eval]) (by rw [flat_len pr_cells_len]) (one_pr _) (by simp only [maxLen]; omega) (by omega) HO3.out HM3.out.2.2 HE3.out.size ?_; intro v6 w6 hown hg hbk; have HO6 := Lib.hid hown; have HE6 := Lib.hid (HE3.out.own3 HO3.out hg); clear hown hg hbk)
      go_ret
      refine ⟨_, rfl, ?_, HE6.out⟩
      have h9 := HO6.out
      rw [HPV.out]
      simp only [List.length_append, List.length_singleton, List.flatMap_append, List.flatMap_cons, List.flatMap_nil, List.append_nil]
      exact h9
theorem rlist_is {t : BT} {A : Option Addr} {n c : Nat} {w : World} {l : List Pr} (hl : prsV t = l) (h : BAt w t A n) (hs : t.size ≤ 1000) : Calls Try.prog 50 #[.slice A n c] w fun e w' => ∃ B k, e = .returned (.slice B l.length k) ∧ Prs w' B l.length l ∧ w'.ownsRow w.heap.size 34 2 (.slice B l.length k) l.length (l.flatMap Pr.cells) ∧ Ext w w' := by
  subst hl
  refine (rlist_any t A n c w h hs).mono ?_
  rintro e w' ⟨v, rfl, ho, hE⟩
  have ho2 := ho
  obtain ⟨B, k, rfl, -, hP⟩ := ownP_prs ho h.sizes
  exact ⟨B, k, rfl, hP, ho2, hE⟩
end Go.Proofs.Ytbjniaihkllmdaa

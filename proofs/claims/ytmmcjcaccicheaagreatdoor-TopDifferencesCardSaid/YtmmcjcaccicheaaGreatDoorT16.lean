/- PaMidP: parts of the proof of TopDifferences, one text behind the other. No condition. -/
import Derived.Test.YtmmcjcaccicheaaGreatDoorT15
/- Contract: middle, from diff, where there is a chain. -/
namespace Go.Proofs.YtmmcjcaccicheaaGreatDoor
open Go.RowKit
attribute [local go_sem] Oper.semAt_some

theorem uniq_bnd' (x y : Lns) : Bnd 500 (uniqV x y) ∨ 500 < x.length ∨ 500 < y.length := by
  by_cases h : x.length ≤ 500 ∧ y.length ≤ 500
  · exact .inl (uniq_bnd x y 500 h.1 h.2 _ (Nat.le_refl _))
  · omega
theorem long_sub (l : List Mt) (hl : l.Pairwise (fun x y => x.a < y.a)) : ∀ m ∈ longV l, m ∈ l := (chain_asc hl _ (Nat.le_refl _)).2.1
theorem long_bnd {x y : Lns} (hx : x.length ≤ 500) (hy : y.length ≤ 500) : Bnd 500 (longV (uniqV x y)) := fun m hm =>
  uniq_bnd x y 500 hx hy _ (Nat.le_refl _) m (long_sub _ (uniq_pair x y _ (Nat.le_refl _)) m hm)
theorem check_bnd {a b : Lns} : ∀ (l : List Mt) (x y : Int), checkV a b x y l = 0 → ∀ m ∈ l, 1 ≤ m.n ∧ 0 ≤ m.a ∧ m.a + m.n ≤ a.length ∧ 0 ≤ m.b ∧ m.b + m.n ≤ b.length
  | [], _, _, _, m, hm => by simp at hm
  | c :: l, x, y, h, m, hm => by
    rw [checkV] at h
    split at h
    · rename_i h1
      obtain ⟨q1, q2, q3, q4, q5, _⟩ := codeV_zero h1
      rcases List.mem_cons.1 hm with rfl | hm
      · omega
      · exact check_bnd l _ _ h m hm
    · rename_i h1; exact absurd h h1
theorem diff_in (a b : Lns) : ∀ m ∈ diffV a b (dist a b), 1 ≤ m.n ∧ 0 ≤ m.a ∧ m.a + m.n ≤ a.length ∧ 0 ≤ m.b ∧ m.b + m.n ≤ b.length := check_bnd _ _ _ (diff_ok a b).1
abbrev boxPtr (g : Nat) : Obj := .cells #[.pointer (some ⟨g, 0, none⟩)] 106
theorem shV_take {l : List Mt} {k : Nat} {m : Mt} (x y : Int) (h : l[k]? = some m) : shV (l.take (k + 1)) x y = shV (l.take k) x y ++ [mvM m x y] := by
  unfold shV; rw [take_succ_of h]; simp

/-- No panic is let out. -/
def NoP (Q : Exit → Act → World → Prop) (e : Exit) (a : Act) (w : World) : Prop := (∀ c, e ≠ .panic c) ∧ Q e a w
abbrev boxL (C : Option Addr) (n c : Nat) : Obj := .cells #[.slice C n c] 66
abbrev partsF (gp gc : Nat) : Value := .func (.func 107) #[] #[.pointer (some ⟨gp, 0, none⟩), .pointer (some ⟨gc, 0, none⟩)]
theorem parts_any (p : Pt) (C : Option Addr) (n c : Nat) (w : World) :
    Calls Tryz.prog 94 #[p.val, .slice C n c] w fun e w' => e = .returned (partsF w.heap.size (w.heap.size + 1)) ∧ (w.alloc p.obj).alloc (boxL C n c) = w' := by
  obtain ⟨a, a', b, b'⟩ := p
  dsimp only [Pt.val]
  go_enter Tryz.func94, Tryz.ntmps94
  go_wp2_with fail
  go_ret
  exact ⟨rfl, rfl⟩

set_option maxRecDepth 100000 in
set_option maxHeartbeats 8000000 in
theorem middle_parts (f : Nat) (wO : World) (gm base : Nat) (A : Option Addr) (c : Nat) (B : Option Addr) (d : Nat) (a b : Lns) (hoA : Strs wO A a.length a) (hoB : Strs wO B b.length b) (hgO : wO.heap.size ≤ gm) (hc : a.length ≤ c) (hd : b.length ≤ d) (hn : a.length ≤ 125) (hm : b.length ≤ 125) (hD : DiffC f wO gm base A c B d a b) : ∀ (pa pa' pb pb' : Nat) (ms : List Mt) (v : Value) (w : World), MatS w gm base A a.length c B b.length d ms v → Ext wO w → Bnd 500 ms → pa ≤ pa' → pa' ≤ a.length → pb ≤ pb' → pb' ≤ b.length → pa' - pa < f + 1 → ms.length + (5 * ((pa' - pa) + (pb' - pb)) + 2) ≤ 1902 → pa' - pa ≠ 0 → pb' - pb ≠ 0 → longV (uniqV (cutV a pa pa') (cutV b pb pb')) ≠ [] →
    Calls Tryz.prog 73 #[.pointer (some ⟨gm, 0, none⟩), Pt.val ⟨pa, pa', pb, pb'⟩] w fun e w' => (∃ u, e = .returned u) ∧ Bnd 500 ((if cutV a pa pa' = [] ∨ cutV b pb pb' = [] then [] else shV (midG (pcV f) (cutV a pa pa') (cutV b pb pb')) pa pb).foldl keepV ms) ∧ Upd w gm base A a.length c B b.length d ((if cutV a pa pa' = [] ∨ cutV b pb pb' = [] then [] else shV (midG (pcV f) (cutV a pa pa') (cutV b pb pb')) pa pb).foldl keepV ms) v w' := by
  intro pa pa' pb pb' ms v w hS hO hB h1 h2 h3 h4 hf hlen hx0 hy0 hLne
  have ha := hoA.ext hO
  have hb := hoB.ext hO
  have HD := Lib.hid hD; have HS := Lib.hid hS; have HB := Lib.hid hB; have HA := Lib.hid ha; have HBB := Lib.hid hb; have HO := Lib.hid hO; have HOA := Lib.hid hoA; have HOB := Lib.hid hoB
  clear hD hS hB ha hb hO hoA hoB
  obtain ⟨xs, hxs⟩ : ∃ xs, cutV a pa pa' = xs := ⟨_, rfl⟩
  obtain ⟨ys, hys⟩ : ∃ ys, cutV b pb pb' = ys := ⟨_, rfl⟩
  have hxl : xs.length = pa' - pa := by rw [← hxs]; exact cutV_len h2
  have hyl : ys.length = pb' - pb := by rw [← hys]; exact cutV_len h4
  obtain ⟨A', hA'⟩ : ∃ A', (if c = pa then A else A.map (fun z => z.add pa)) = A' := ⟨_, rfl⟩
  obtain ⟨B', hB'⟩ : ∃ B', (if d = pb then B else B.map (fun z => z.add pb)) = B' := ⟨_, rfl⟩
  have sA : ∀ wx, Ext wO wx → Strs wx A' (pa' - pa) xs := fun wx hx => by rw [← hxs]; exact strs_part (HOA.out.ext hx) hc h1 h2 hA'
  have sB : ∀ wx, Ext wO wx → Strs wx B' (pb' - pb) ys := fun wx hx => by rw [← hys]; exact strs_part (HOB.out.ext hx) hd h3 h4 hB'
  rw [hxs, hys] at hLne
  rw [hxs, hys]
  have HLNE := Lib.hid hLne; clear hLne
  obtain ⟨M2, hM2⟩ : ∃ M2, (if xs = [] ∨ ys = [] then [] else shV (midG (pcV f) xs ys) pa pb) = M2 := ⟨_, rfl⟩
  rw [hM2]
  have HM2 := Lib.hid hM2; clear hM2
  have HXS := Lib.hid hxs; have HYS := Lib.hid hys; have HXL := Lib.hid hxl; have HYL := Lib.hid hyl; have AA := Lib.hid hA'; have BB := Lib.hid hB'; have SA := Lib.hid sA; have SB := Lib.hid sB
  clear hxs hys hxl hyl hA' hB' sA sB
  dsimp only [Pt.val]
  refine calls_marks Tryz.func73 rfl ?_
  simp only [Tryz.ntmps73, List.size_toArray, List.length_cons, List.length_nil, Nat.reduceAdd, Nat.reduceSub, Array.replicate_succ, Array.replicate_zero, List.push_toArray, List.append_toArray, List.nil_append, List.cons_append]
  go_wp2_with fail
  obtain ⟨g2, hg2⟩ : ∃ gp, gp = w.heap.size := ⟨_, rfl⟩
  obtain ⟨g3, hg3⟩ : ∃ gp, gp = w.heap.size + 1 := ⟨_, rfl⟩
  obtain ⟨w1, hw1, hb2, hb3, hE1⟩ : ∃ w1, w1 = (w.alloc (boxPtr gm)).alloc (Pt.obj ⟨pa, pa', pb, pb'⟩) ∧ Blk w1 g2 (boxPtr gm) ∧ Blk w1 g3 (Pt.obj ⟨pa, pa', pb, pb'⟩) ∧ Ext w w1 := ⟨_, rfl, (Blk.new w _ hg2).alloc _, Blk.new (w.alloc _) _ (by rw [hg3]; simp), ((Ext.refl w).alloc _).alloc _⟩
  rw [← hw1, ← hg3, ← hg2]
  have HB2 := Lib.hid hb2; have HB3 := Lib.hid hb3; have HE1 := Lib.hid hE1; have HG2 := Lib.hid hg2; have HG3 := Lib.hid hg3
  clear hw1 hb2 hb3 hE1 hg2 hg3
  have b1 : (pa' : Int) ≤ c := by omega
  have b2 : (pb' : Int) ≤ d := by omega
  have b3 : (pa : Int) ≤ pa' := by omega
  have b4 : (pb : Int) ≤ pb' := by omega
  refine wp_mono (Q := NoP _) ?_ (fun e a w h => h.2)
  refine wp_region_text (fun wx => Ext w1 wx) [0,1,2,3,4,5,6,7,8,9,10,11,12,13,14,15,16,17,18,19] (by kernel_rfl) (Stab.ext _) (Ext.refl w1).drew (by kernel_rfl) (fun c d _ _ _ h => absurd rfl (h.1 c)) ?_
  iterate 8
    refine wpTk_want rfl (Eq.refl true) ?_
    apply Exists.intro
    refine ⟨fun wx hx => ?_, ?_⟩
    · obtain ⟨m0, m1, m2⟩ := (HS.out.blk.ext (HE1.out.trans hx)).cells3
      obtain ⟨p0, p1, p2, p3⟩ := (HB3.out.ext hx).cells4
      have q0 := (HB2.out.ext hx).cell 0
      replace q0 : wx.cell? ⟨g2, 0, none⟩ = some (.pointer (some ⟨gm, 0, none⟩)) := q0
      clear hx
      go_simp
      with_reducible exact gives_ok _ _ _
    simp only [Act.put, List.setIfInBounds_toArray, List.set_cons_zero, List.set_cons_succ]
  refine wpTk_want rfl (Eq.refl true) ⟨.slice A' (pa' - pa) (c - pa), fun wx hx => ?_, ?_⟩
  · clear hx
    go_simp
    rw [AA.out]
    with_reducible exact gives_ok _ _ _
  simp only [Act.put, List.setIfInBounds_toArray, List.set_cons_zero, List.set_cons_succ]
  iterate 8
    refine wpTk_want rfl (Eq.refl true) ?_
    apply Exists.intro
    refine ⟨fun wx hx => ?_, ?_⟩
    · obtain ⟨m0, m1, m2⟩ := (HS.out.blk.ext (HE1.out.trans hx)).cells3
      obtain ⟨p0, p1, p2, p3⟩ := (HB3.out.ext hx).cells4
      have q0 := (HB2.out.ext hx).cell 0
      replace q0 : wx.cell? ⟨g2, 0, none⟩ = some (.pointer (some ⟨gm, 0, none⟩)) := q0
      clear hx
      go_simp
      with_reducible exact gives_ok _ _ _
    simp only [Act.put, List.setIfInBounds_toArray, List.set_cons_zero, List.set_cons_succ]
  refine wpTk_want rfl (Eq.refl true) ⟨.slice B' (pb' - pb) (d - pb), fun wx hx => ?_, ?_⟩
  · clear hx
    go_simp
    rw [BB.out]
    with_reducible exact gives_ok _ _ _
  simp only [Act.put, List.setIfInBounds_toArray, List.set_cons_zero, List.set_cons_succ]
  iterate 2
    refine wpTk_want rfl (Eq.refl true) ?_
    apply Exists.intro
    refine ⟨fun wx hx => ?_, ?_⟩
    · obtain ⟨m0, m1, m2⟩ := (HS.out.blk.ext (HE1.out.trans hx)).cells3
      obtain ⟨p0, p1, p2, p3⟩ := (HB3.out.ext hx).cells4
      have q0 := (HB2.out.ext hx).cell 0
      replace q0 : wx.cell? ⟨g2, 0, none⟩ = some (.pointer (some ⟨gm, 0, none⟩)) := q0
      clear hx
      go_simp
      with_reducible exact gives_ok _ _ _
    simp only [Act.put, List.setIfInBounds_toArray, List.set_cons_zero, List.set_cons_succ]
  refine wpTk_nil ?_
  intro w2 hx
  refine ⟨nofun, ?_⟩
  have HE2 := Lib.hid (HE1.out.trans hx); have HB22 := Lib.hid (HB2.out.ext hx); have HB32 := Lib.hid (HB3.out.ext hx); clear hx HB2 HB3 HE1 b1 b2 b3 b4
  have hR2 : Run wO w gm base A a.length c B b.length d v ms v w2 := ⟨HS.out.ext HE2.out, Lv.of_ext HE2.out, fun g h => .inl h, HO.out.trans HE2.out⟩
  have HR2 := Lib.hid hR2; clear hR2
  have hx1 : (((pa' - pa : Nat) : Int) == 0) = false := by simp; omega
  have hy1 : (((pb' - pb : Nat) : Int) == 0) = false := by simp; omega
  have hm3 := HM2.out
  rw [if_neg (fun h => h.elim (fun h => hx0 (by rw [← HXL.out, h]; rfl)) (fun h => hy0 (by rw [← HYL.out, h]; rfl)))] at hm3
  have HM3 := Lib.hid hm3; clear hm3 HM2
  go_wp2_with fail
  refine (unique_any A' B' (pa' - pa) (c - pa) (pb' - pb) (d - pb) xs ys w2 (SA.out _ HR2.out.org) (SB.out _ HR2.out.org) (by omega) (by omega)).mono ?_
  rintro e w3 ⟨vu, rfl, ho, hE⟩
  have hul := uniqP_len xs ys xs.length
  obtain ⟨Au, ku, rfl, -, hMu⟩ := ownM_mts ho ((uniq_bnd xs ys 500 (by rw [HXL.out]; omega) (by rw [HYL.out]; omega) _ (Nat.le_refl _)).wf (by omega))
  have HMU := Lib.hid hMu
  have HR3 := Lib.hid (HR2.out.ext hE); have HB23 := Lib.hid (HB22.out.ext hE); have HB33 := Lib.hid (HB32.out.ext hE)
  clear ho hE hMu HR2 HB22 HB32
  go_wp2_with fail
  refine (longest_any Au (uniqV xs ys).length ku (uniqV xs ys) w3 HMU.out (by rw [HXL.out] at hul; unfold uniqV; rw [HXL.out]; omega)).mono ?_
  rintro e w4 ⟨vl, rfl, ho, hE⟩
  obtain ⟨L, hL⟩ : ∃ L, longV (uniqV xs ys) = L := ⟨_, rfl⟩
  have hLb : Bnd 500 L := by rw [← hL]; exact long_bnd (by rw [HXL.out]; omega) (by rw [HYL.out]; omega)
  have hLa : Asc xs.length ys.length 0 0 L := by rw [← hL]; exact uniq_asc xs ys
  have hmid : midG (pcV f) xs ys = if L = [] then diffV xs ys (dist xs ys) else partG (pcV f) xs ys 0 0 L := by unfold midG; rw [hL]
  rw [hL] at ho
  obtain ⟨Al, kl, rfl, hkl, hMl⟩ := ownM_mts ho (hLb.wf (by omega))
  have HML := Lib.hid hMl; have HLB := Lib.hid hLb; have HLA := Lib.hid hLa; have HMID := Lib.hid hmid
  have HR4 := Lib.hid (HR3.out.ext hE); have HB24 := Lib.hid (HB23.out.ext hE); have HB34 := Lib.hid (HB33.out.ext hE)
  have hL' := hL; have HOL := Lib.hid ho; have hw3 : w.heap.size ≤ w3.heap.size := HR3.out.lv.size; clear ho hE hMl hLb hLa hmid hL HR3 HB23 HB33 HMU hul
  have hL0 : L ≠ [] := fun h => by subst h; exact HLNE.out hL'
  have hm2 := HMID.out
  rw [if_neg hL0] at hm2
  have hm4 := HM3.out
  rw [hm2] at hm4
  have HMM := Lib.hid hm4; have HL0 := Lib.hid hL0
  have hLn : ((L.length : Int) == 0) = false := by simp; exact hL0
  clear hm2 hm4 HMID HM3 hL0 hL'
  obtain ⟨p0, p1, p2, p3⟩ := HB34.out.cells4
  go_wp2_with fail
  have hpa := parts_any ⟨pa, pa', pb, pb'⟩ Al L.length kl w4
  dsimp only [Pt.val] at hpa
  refine hpa.mono ?_
  rintro e w0 ⟨rfl, hw0⟩
  obtain ⟨gp, hgp⟩ : ∃ gp, gp = w4.heap.size := ⟨_, rfl⟩
  obtain ⟨gc, hgc⟩ : ∃ gp, gp = w4.heap.size + 1 := ⟨_, rfl⟩
  have hs0 : w0.heap.size = w4.heap.size + 2 := by rw [← hw0]; simp
  have he0 : Ext w4 w0 := by rw [← hw0]; exact ((Ext.refl w4).alloc _).alloc _
  have hbp : Blk w0 gp (Pt.obj ⟨pa, pa', pb, pb'⟩) := by rw [← hw0, hgp]; exact (Blk.new w4 _ rfl).alloc _
  have hbc : Blk w0 gc (boxL Al L.length kl) := by rw [← hw0, hgc]; exact Blk.new (w4.alloc _) _ (by simp)
  have hb20 := HB24.out.ext he0
  have hR0 := HR4.out.ext he0
  have hbm := HS.out.lt; have hbl := HS.out.le
  have hw4 := HR4.out.lv.size
  have hgl : ∀ g, (Value.slice Al L.length kl).ownBlock = some g → w3.heap.size ≤ g := fun g hg => (own_blk HOL.out hg).1
  have hvl : ∀ g, v.ownBlock = some g → g < w.heap.size := fun g hg => (HS.out.own.lt g hg).2
  have hK : ∀ W, Lv (fun g => g = gm ∨ v.ownBlock = some g) w0 W → Kp ⟨pa, pa', pb, pb'⟩ Al L.length kl L gp gc W := fun W hv => by
    refine ⟨hbp.lv hv (fun h => h.elim (by omega) (fun h => by have := hvl _ h; omega)), hbc.lv hv (fun h => h.elim (by omega) (fun h => by have := hvl _ h; omega)), ?_⟩
    have h9 := own_lv (own_stab3 he0 HOL.out) hv (fun g hg hs => hs.elim (fun h => by have := hgl g hg; omega) (fun h => by have := hgl g hg; have := hvl g h; omega))
    obtain ⟨A9, c9, hv9, -, hM9⟩ := ownM_mts h9 (HLB.out.wf (by omega))
    cases hv9
    exact hM9
  have hll : L.length ≤ 1000 := by
    have h1 := HMM.out
    have h9 := pc_len (f + 1) xs ys
    have := HML.out.1
    have h3 : ∀ (cs : List Mt) (p q : Nat), Asc xs.length ys.length p q cs → cs.length + p ≤ xs.length := by
      intro cs
      induction cs with
      | nil => intro p q h; have := h.1; simpa using this
      | cons c cs ih => intro p q h; obtain ⟨g1, g2, g3, g4, g5, g6⟩ := h; have := ih _ _ g6; simp only [List.length_cons]; omega
    have := h3 L 0 0 HLA.out
    rw [HXL.out] at this
    omega
  have hit := parts_iter ⟨pa, pa', pb, pb'⟩ Al L.length kl L gp gc (fun g => g = gm ∨ v.ownBlock = some g) w0 hK hll (by dsimp only; omega) (fun m hm => by have := HLB.out m hm; omega)
  have HIT := Lib.hid hit; have HB20 := Lib.hid hb20; have HR0 := Lib.hid hR0; have HS0 := Lib.hid hs0; have HVL := Lib.hid hvl
  have HG23 : g2 < w0.heap.size ∧ g2 ≠ gm ∧ gm < w0.heap.size := by have := HG2.out; omega
  have HG23 := Lib.hid HG23; have HWW : w.heap.size ≤ w0.heap.size := by omega
  have HWW := Lib.hid HWW
  dsimp only
  rw [← hgc, ← hgp]
  clear hw0 hs0 he0 hbp hbc hb20 hR0 hK hit hvl hgl hll p0 p1 p2 p3 hpa HR4 HB24 HB34 hgp hgc hbm hbl hw4 hw3
  go_wp2_with fail
  generalize hA : Act.mk _ _ = a0
  refine wp_of_In (wpIn_range3 (gf := 107) (by rw [← hA]; rfl) (enters_of Tryz.func107 (by kernel_rfl) rfl) HIT.out (fun x vs S W h => by rw [h]; rfl) (fun x vs S W W' h _ => h) (fun x vs S S' W h _ => h)
    (fun pre S W => ∃ (v' : Value) (x y : Nat) (cs : List Mt), ((pre ++ ptsV ⟨pa, pa', pb, pb'⟩ (x + pa) (y + pb) cs = ptsV ⟨pa, pa', pb, pb'⟩ pa pb L ∧ Asc xs.length ys.length x y cs ∧ ((1 ≤ x ∧ ((pre.flatMap (ptPc f a b)).foldl keepV ms).length + 5 * ((pa' - pa - x) + (pb' - pb - y)) + 2 ≤ 1895) ∨ (cs ≠ [] ∧ ((pre.flatMap (ptPc f a b)).foldl keepV ms).length + 5 * ((pa' - pa - x) + (pb' - pb - y)) + 2 ≤ 1902))) ∨ pre = ptsV ⟨pa, pa', pb, pb'⟩ pa pb L) ∧
      Run wO w gm base A a.length c B b.length d v ((pre.flatMap (ptPc f a b)).foldl keepV ms) v' W ∧ (S = fun g => g = gm ∨ v'.ownBlock = some g) ∧ Blk W g2 (boxPtr gm) ∧ Bnd 500 ((pre.flatMap (ptPc f a b)).foldl keepV ms))
    (fun _ _ _ _ => False) ?hI (fun _ _ _ _ _ h _ => h.elim) (fun g => g = gm ∨ v.ownBlock = some g) ?h0 (fun g h => by have := HG23.out; have := HWW.out; rcases h with h | h; omega; have := HVL.out g h; omega)
    (fun S W e h => ⟨Lv.of_ext e, h⟩)
    (fun x vs W a₁ W' => a₁ = { tmps := (((a0.tmps.setIfInBounds 70 x.1.val).setIfInBounds 71 x.2.val).setIfInBounds 9 (.pointer (some ⟨W.heap.size, 0, none⟩))).setIfInBounds 10 (.pointer (some ⟨W.heap.size + 1, 0, none⟩)), defers := [] } ∧ Ext W W' ∧ Blk W' W.heap.size x.1.obj ∧ Blk W' (W.heap.size + 1) x.2.obj) (fun x vs W a₁ W' h => h.2.1) ?assign ?body ?done (fun _ _ _ _ _ _ _ _ h _ => h.elim))
  case hI =>
    rintro pre S W W' ⟨v', x, y, cs, hp, hR, rfl, hb, hbd⟩ hv
    have hg := HG23.out; have hww := HWW.out
    have hv2 : Lv (fun g => g = gm ∨ v.ownBlock = some g) w W' := hR.lv.trans hv (fun g hg h => by omega)
    refine ⟨v', x, y, cs, hp, ⟨⟨hR.mat.blk.lv hv (fun h => h.2 (.inl rfl)), own_lv hR.mat.own hv (fun g hg h => h.2 (.inr hg)), hR.mat.lt, Nat.le_trans hR.mat.le hv.size⟩, hv2, hR.ob, HS.out.org HO.out hgO hv2⟩, rfl, hb.lv hv (fun h => by omega), hbd⟩
  case h0 =>
    refine ⟨v, 0, 0, L, .inl ⟨by simp, HLA.out, .inr ⟨HL0.out, ?_⟩⟩, HR0.out, rfl, HB20.out, HB.out⟩
    simp only [List.flatMap_nil, List.foldl_nil]; omega
  case assign =>
    rintro l ⟨⟨q1, q2, q3, q4⟩, ⟨m1, m2, m3⟩⟩ vs S W K rfl hK
    subst hA
    simp only [Pt.val, Mt.val]
    gi_wp2
    exact ⟨⟨rfl, rfl⟩, ((Ext.refl W).alloc _).alloc _, (Blk.new W _ rfl).alloc _, Blk.new (W.alloc _) _ (by simp)⟩
  case body =>
    rintro l pre ⟨q, mm⟩ vs S W0 W' W a₁ ⟨rfl, hEa, hba, hbb⟩ hle0 hvb ⟨v', x, y, cs, hp, hR, rfl, hb, hbd⟩ hleW hpx henc hSlt
    have hne : pre ≠ ptsV ⟨pa, pa', pb, pb'⟩ pa pb L := fun h => by
      have := hpx.length_le
      rw [h] at this
      simp only [List.length_append, List.length_cons, List.length_nil] at this
      omega
    obtain ⟨htot, hasc, hlb⟩ := hp.resolve_right hne
    have hnext : q.a ≤ q.a' ∧ q.a' ≤ a.length ∧ q.b ≤ q.b' ∧ q.b' ≤ b.length ∧ q.a' - q.a < f ∧ ((pre.flatMap (ptPc f a b)).foldl keepV ms).length + (5 * ((q.a' - q.a) + (q.b' - q.b)) + 2) ≤ 1900 ∧ Bnd 500 [mm] ∧
        ((∃ x' y' cs', (pre ++ [(q, mm)]) ++ ptsV ⟨pa, pa', pb, pb'⟩ (x' + pa) (y' + pb) cs' = ptsV ⟨pa, pa', pb, pb'⟩ pa pb L ∧ Asc xs.length ys.length x' y' cs' ∧ 1 ≤ x' ∧ ((pre.flatMap (ptPc f a b)).foldl keepV ms).length + (5 * ((q.a' - q.a) + (q.b' - q.b)) + 2) + 1 + 5 * ((pa' - pa - x') + (pb' - pb - y')) + 2 ≤ 1895) ∨ pre ++ [(q, mm)] = ptsV ⟨pa, pa', pb, pb'⟩ pa pb L) := by
      have hpx2 := hpx
      rw [← htot, List.prefix_append_right_inj] at hpx2
      have hxl := HXL.out; have hyl := HYL.out
      cases cs with
      | nil =>
        obtain ⟨g1, g2⟩ := hasc
        rw [ptsV] at hpx2
        obtain ⟨rest, hrest⟩ := hpx2
        simp only [List.cons_append, List.cons.injEq, Prod.mk.injEq] at hrest
        obtain ⟨⟨rfl, rfl⟩, _⟩ := hrest
        rcases hlb with ⟨g3, g4⟩ | ⟨g3, _⟩
        · dsimp only
          refine ⟨by omega, by omega, by omega, by omega, by omega, by omega, Bnd.one (by omega), .inr ?_⟩
          rw [← htot, ptsV]
        · exact absurd rfl g3
      | cons c cs =>
        obtain ⟨g1, g2, g3, g4, g5, g6⟩ := hasc
        have htot2 := htot
        rw [ptsV] at hpx2 htot2
        obtain ⟨rest, hrest⟩ := hpx2
        simp only [List.cons_append, List.cons.injEq, Prod.mk.injEq] at hrest
        obtain ⟨⟨rfl, rfl⟩, _⟩ := hrest
        dsimp only at htot2 ⊢
        refine ⟨by omega, by omega, by omega, by omega, by omega, by omega, Bnd.one (by omega), .inl ⟨c.a.toNat + 1, c.b.toNat + 1, cs, ?_, g6, by omega, by omega⟩⟩
        rw [← htot2, List.append_assoc, show c.a.toNat + 1 + pa = c.a.toNat + pa + 1 by omega, show c.b.toNat + 1 + pb = c.b.toNat + pb + 1 by omega]
        rfl
    obtain ⟨n1, n2, n3, n4, n5, n6, n7, n8⟩ := hnext
    have hg := HG23.out; have hww := HWW.out
    have bq : Blk W W0.heap.size q.obj := hba.lv hvb (fun h => hba.nc h.2)
    have bm : Blk W (W0.heap.size + 1) mm.obj := hbb.lv hvb (fun h => hbb.nc h.2)
    have hcall := HD.out q _ v' W hR.mat hR.org hbd n1 n2 n3 n4 n5 n6
    have HCALL := Lib.hid hcall; have HR := Lib.hid hR; have HBD := Lib.hid hbd; have HB2 := Lib.hid hb; have BQ := Lib.hid bq; have BM := Lib.hid bm; have N7 := Lib.hid n7; have N8 := Lib.hid n8; have HSL := Lib.hid hSlt; have HTOT := Lib.hid htot
    clear hcall hR hbd hb bq bm n7 n8 hSlt htot hp hba hbb hvb hpx hne hlb hasc henc hEa
    obtain ⟨q1, q2, q3, q4⟩ := q
    obtain ⟨m1, m2, m3⟩ := mm
    obtain ⟨p0, p1, p2, p3⟩ := BQ.out.cells4
    have q0 := HB2.out.cell 0
    replace q0 : W.cell? ⟨g2, 0, none⟩ = some (.pointer (some ⟨gm, 0, none⟩)) := q0
    subst hA
    simp only [List.setIfInBounds_toArray, List.set_cons_zero, List.set_cons_succ]
    gi_wp2
    have hcall := HCALL.out
    dsimp only [Pt.val] at hcall
    refine ⟨trivial, rfl, CallsIn.inRound l (callsIn_wide.2 (hcall.mono ?_))⟩
    rintro e W1 ⟨⟨u1, rfl⟩, hB1, v1, hm1, hl1, ho1⟩
    have hR1 := HR.out.next hgO hm1 hl1 ho1
    have hln1 := fold_len (shV (pcV f (cutV a q1 q2) (cutV b q3 q4)) q1 q3) ((pre.flatMap (ptPc f a b)).foldl keepV ms)
    have hln2 := pc_len f (cutV a q1 q2) (cutV b q3 q4)
    have hln3 := cut_len a q1 q2
    have hln4 := cut_len b q3 q4
    simp only [shV, List.length_map] at hln1
    try dsimp only at n1 n2 n3 n4 n5 n6
    have hb21 := HR.out.mat.box HB2.out (by decide) hg.2.1 hl1
    have hbm1 := BM.out.lv hl1 (fun h => h.elim (by omega) (fun h => by have := HSL.out _ (.inr h); omega))
    have HR1 := Lib.hid hR1; have HB1 := Lib.hid hB1; have HL1 := Lib.hid hl1; have HO1 := Lib.hid ho1; have HB21 := Lib.hid hb21
    clear hcall hR1 hB1 hm1 hl1 ho1 hb21 p0 p1 p2 p3 q0
    obtain ⟨c0, c1, c2⟩ := hbm1.cells3
    have q0 := HB21.out.cell 0
    replace q0 : W1.cell? ⟨g2, 0, none⟩ = some (.pointer (some ⟨gm, 0, none⟩)) := q0
    clear hbm1
    gi_wp2
    refine ⟨trivial, rfl, CallsIn.inRound l (callsIn_wide.2 ((keep_any gm base A a.length c B b.length d _ v1 m1 m2 m3 500 W1 HR1.out.mat HB1.out N7.out (by omega) (by simp only [shV]; omega)).mono ?_))⟩
    rintro e W2 ⟨⟨u2, rfl⟩, v2, hm2, hl2, ho2⟩
    have hR2 := HR1.out.next hgO hm2 hl2 ho2
    have hb22 := HR1.out.mat.box HB21.out (by decide) hg.2.1 hl2
    have hfold : ((pre ++ [((⟨q1, q2, q3, q4⟩ : Pt), (⟨m1, m2, m3⟩ : Mt))]).flatMap (ptPc f a b)).foldl keepV ms = keepV ((shV (pcV f (cutV a q1 q2) (cutV b q3 q4)) q1 q3).foldl keepV ((pre.flatMap (ptPc f a b)).foldl keepV ms)) ⟨m1, m2, m3⟩ := by
      rw [List.flatMap_append, List.foldl_append]
      simp only [List.flatMap_cons, List.flatMap_nil, List.append_nil, ptPc, List.foldl_append, List.foldl_cons, List.foldl_nil]
    have hlv : Lv (fun g => g = gm ∨ v'.ownBlock = some g) W W2 := HL1.out.trans hl2 (fun g hg' h => h.elim .inl (fun h => (HO1.out g h).elim .inr (by omega)))
    have hkl := keepV_len ((shV (pcV f (cutV a q1 q2) (cutV b q3 q4)) q1 q3).foldl keepV ((pre.flatMap (ptPc f a b)).foldl keepV ms)) ⟨m1, m2, m3⟩
    have HFO := Lib.hid hfold; have HLV := Lib.hid hlv; have HR2 := Lib.hid hR2; have HB22 := Lib.hid hb22; have HO2 := Lib.hid ho2; have HBB2 := Lib.hid (HB1.out.keep N7.out)
    clear hfold hlv hR2 hb22 hm2 hl2 ho2 c0 c1 c2 q0
    gi_wp2
    refine ⟨fun g => g = gm ∨ v2.ownBlock = some g, HLV.out, fun g h => ?_, fun g h => ?_, v2, ?_⟩
    · rcases h with h | h
      · exact .inl (.inl h)
      · rcases HO2.out g h with h | h
        · rcases HO1.out g h with h | h
          · exact .inl (.inr h)
          · exact .inr h
        · have := HL1.out.size; exact .inr (by omega)
    · rcases h with h | h
      · have := HR2.out.mat.blk.lt; omega
      · exact (HR2.out.mat.own.lt g h).2
    · have hlast : Run wO w gm base A a.length c B b.length d v (((pre ++ [((⟨q1, q2, q3, q4⟩ : Pt), (⟨m1, m2, m3⟩ : Mt))]).flatMap (ptPc f a b)).foldl keepV ms) v2 W2 := by rw [HFO.out]; exact HR2.out
      have hlb2 : Bnd 500 (((pre ++ [((⟨q1, q2, q3, q4⟩ : Pt), (⟨m1, m2, m3⟩ : Mt))]).flatMap (ptPc f a b)).foldl keepV ms) := by rw [HFO.out]; exact HBB2.out
      rcases N8.out with ⟨x', y', cs', e1, e2, e3, e4⟩ | e1
      · refine ⟨x', y', cs', .inl ⟨e1, e2, .inl ⟨e3, ?_⟩⟩, hlast, rfl, HB22.out, hlb2⟩
        rw [HFO.out]
        simp only [shV] at hkl ⊢
        try dsimp only at e4
        omega
      · exact ⟨0, 0, [], .inr e1, hlast, rfl, HB22.out, hlb2⟩
  case done =>
    rintro D0 S W hD0 hnS ⟨v', x, y, cs, hp, hR, rfl, hb, hbd⟩ hdef
    have hww := HWW.out
    subst hA
    have hfin : ((ptsV ⟨pa, pa', pb, pb'⟩ pa pb L).flatMap (ptPc f a b)).foldl keepV ms = M2.foldl keepV ms := by
      have h9 := fold_pts f a b pa pa' pb pb' h1 h3 h2 h4 L 0 0 ms (by have := HLA.out; rw [HXL.out, HYL.out] at this; exact this)
      rw [Nat.zero_add, Nat.zero_add, HXS.out, HYS.out, HMM.out] at h9
      exact h9
    have HR := Lib.hid hR; have HBD := Lib.hid hbd; have HDF := Lib.hid hdef; have HFI := Lib.hid hfin; have HNS := Lib.hid hnS
    clear hR hbd hdef hfin hp hb hnS
    go_wp2_with fail
    refine ⟨by simp, .inl ⟨_, _, rfl, run_takeDeferred HDF.out, ?_⟩⟩
    have hlv : Lv (fun g => g = D0) W (W.putObj D0 (.deferred none)) := Lv.putObj (S := fun g => g = D0) (Lv.refl _ _) (fun _ => rfl) _
    have h8 := HR.out; have h9 := HBD.out
    rw [HFI.out] at h8 h9
    refine ⟨_, results_none rfl _ _ _, ⟨_, rfl⟩, h9, v', ⟨h8.mat.blk.lv hlv (fun h => HNS.out (.inl h.symm)), own_lv h8.mat.own hlv (fun g hg h => HNS.out (.inr (h ▸ hg))), h8.mat.lt, Nat.le_trans h8.mat.le hlv.size⟩, h8.lv.trans hlv (fun g hg h => by omega), h8.ob⟩
end Go.Proofs.YtmmcjcaccicheaaGreatDoor

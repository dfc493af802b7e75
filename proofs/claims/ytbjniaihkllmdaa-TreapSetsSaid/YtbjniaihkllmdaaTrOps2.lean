/- Contracts on trees: join, put, without. -/
import Derived.Test.YtbjniaihkllmdaaTrOps
namespace Go.Proofs.Ytbjniaihkllmdaa
open Go.RowKit

set_option maxRecDepth 100000 in
set_option maxHeartbeats 8000000 in
theorem join_any : ∀ (f : Nat) (a b : BT) (A : Option Addr) (n c : Nat) (B : Option Addr) (m d : Nat) (w : World), a.size + b.size < f → BAt w a A n → BAt w b B m → Calls Try.prog 59 #[.slice A n c, .slice B m d] w (Got (joinF f a b) w)
  | 0, _, _, _, _, _, _, _, _, _, h, _, _ => absurd h (by omega)
  | f + 1, .leaf, b, A, n, c, B, m, d, w, _, hm, hb => by
    obtain rfl := hm.leaf
    have HB := Lib.hid hb; clear hm hb
    go_enter Try.func59, Try.ntmps59
    go_wp2_with fail
    go_ret
    exact ⟨B, m, d, rfl, HB.out, Ext.refl _⟩
  | f + 1, .node l k v r, .leaf, A, n, c, B, m, d, w, _, hm, hb => by
    obtain rfl := hb.leaf
    have hm2 := hm
    obtain ⟨b, off, Al, nl, cl, Ar, nr, cr, rfl, rfl, hb, hks, c0, c1, c2, c3, hl, hr⟩ := hm.node
    have HM := Lib.hid hm2; clear hm hm2 hks hl hr c0 c1 c2 c3
    go_enter Try.func59, Try.ntmps59
    go_wp2_with fail
    go_ret
    exact ⟨_, 1, c, rfl, HM.out, Ext.refl _⟩
  | f + 1, .node l k v r, .node l' k' v' r', A, n, c, B, m, d, w, hsz, hma, hmb => by
    have IH := join_any f
    have HMA := Lib.hid hma; have HMB := Lib.hid hmb; have HIH := Lib.hid IH; clear IH
    simp only [BT.size] at hsz
    obtain ⟨b, off, Al, nl, cl, Ar, nr, cr, rfl, rfl, hb, hks, c0, c1, c2, c3, hl, hr⟩ := hma.node
    obtain ⟨b', off', Al', nl', cl', Ar', nr', cr', rfl, rfl, hb', hks', c0', c1', c2', c3', hl', hr'⟩ := hmb.node
    have HL := Lib.hid hl; have HR := Lib.hid hr; have HL' := Lib.hid hl'; have HR' := Lib.hid hr'; have HK1 := Lib.hid hks; have HK2 := Lib.hid hks'
    have C0 := Lib.hid c0; have C1 := Lib.hid c1; have C2 := Lib.hid c2; have C3 := Lib.hid c3; have C0' := Lib.hid c0'; have C1' := Lib.hid c1'; have C2' := Lib.hid c2'; have C3' := Lib.hid c3'
    clear hl hr hl' hr' hks hks' hma hmb c0 c1 c2 c3 c0' c1' c2' c3'
    obtain ⟨z, hz⟩ : ∃ z, ahB k k' = z := ⟨_, rfl⟩
    have HZB := Lib.hid hz
    go_enter Try.func59, Try.ntmps59
    go_wp2_with fail
    refine wp_region_text (fun wx => Ext w wx) [0,1,2,3,4,5,6,7,8,9] (by kernel_rfl) (Stab.ext _) (Ext.refl w).drew (by kernel_rfl) (fun _ d _ _ _ h => by cases d <;> exact h) ?_
    iterate 8
      refine wpTk_want rfl (Eq.refl true) ?_
      apply Exists.intro
      refine ⟨fun wx hx => ?_, ?_⟩
      · have d0 := hx.cell C0.out; have d0' := hx.cell C0'.out
        clear hx
        go_simp
        with_reducible exact gives_ok _ _ _
      simp only [Act.put, List.setIfInBounds_toArray, List.set_cons_zero, List.set_cons_succ]
    refine wpTk_want rfl (Eq.refl true) ⟨.bool z, fun wx hx => ?_, ?_⟩
    · clear hx
      go_simp
      have r9 : Calls Try.prog 48 #[.string k, .string k'] wx fun e w' => e = .returned (.bool z) ∧ Ext wx w' := (ahead_is HZB.out HK1.out.1 HK2.out.1).mono (by rintro e w' ⟨rfl, rfl⟩; exact ⟨rfl, Ext.refl _⟩)
      with_reducible exact gives_call _ _ _ r9
    simp only [Act.put, List.setIfInBounds_toArray, List.set_cons_zero, List.set_cons_succ]
    refine wpTk_want rfl (Eq.refl true) ?_
    apply Exists.intro
    refine ⟨fun wx hx => ?_, ?_⟩
    · clear hx
      go_simp
      with_reducible exact gives_ok _ _ _
    simp only [Act.put, List.setIfInBounds_toArray, List.set_cons_zero, List.set_cons_succ]
    refine wpTk_nil ?_
    intro w0 hE0
    have HE0 := Lib.hid hE0
    have hlt : b < w0.heap.size := Nat.lt_of_lt_of_le hb hE0.size
    have hlt' : b' < w0.heap.size := Nat.lt_of_lt_of_le hb' hE0.size
    cases z with
    | true =>
      have hv : joinF (f + 1) (.node l k v r) (.node l' k' v' r') = .node l k v (joinF f r (.node l' k' v' r')) := by rw [joinF, if_pos HZB.out]
      have HV := Lib.hid hv; have HKS := HK1; clear hv hz
      have c0 := hE0.cell C0.out; have c1 := hE0.cell C1.out; have c2 := hE0.cell C2.out; have c3 := hE0.cell C3.out
      clear hE0
      go_wp2_with fail
      clear c0 c1 c2 c3
      obtain ⟨gx, hgx⟩ : ∃ gx, w0.heap.size = gx := ⟨_, rfl⟩
      have hbx : Blk (w0.alloc (nodeObj k v Al nl cl Ar nr cr)).drew gx (nodeObj k v Al nl cl Ar nr cr) := (Blk.new w0 _ hgx.symm).drew
      have hEx : Ext w0 (w0.alloc (nodeObj k v Al nl cl Ar nr cr)).drew := ((Ext.refl w0).alloc _).drew
      rw [hgx]
      obtain ⟨T, hT⟩ : ∃ T, T = (fun wx => Ext w0 wx ∧ Blk wx gx (nodeObj k v Al nl cl Ar nr cr)) := ⟨_, rfl⟩
      have hTs : Stab T := by rw [hT]; exact (Stab.ext _).and (Stab.blk _ _)
      refine wp_region_X (T := T) T (by kernel_rfl) (by rw [hT]; exact ⟨hEx, hbx⟩) (wpX_takes (by kernel_rfl) (fun _ d _ _ _ h => by cases d <;> exact h) hTs (fun _ h => h) (fuel := 3) [0,1,2,3,4,5,6,7,8] _ _ (by kernel_rfl) ?_)
      clear hbx hEx
      iterate 9
        refine wpTk_want rfl (Eq.refl true) ?_
        apply Exists.intro
        refine ⟨fun wx hx => ?_, ?_⟩
        · rw [hT] at hx
          obtain ⟨d0, d1, d2, d3⟩ := hx.2.cells4
          clear hx
          go_simp
          with_reducible exact gives_ok _ _ _
        simp only [Act.put, List.setIfInBounds_toArray, List.set_cons_zero, List.set_cons_succ]
      refine wpTk_nil ?_
      refine wpX_one 9 (by kernel_rfl) rfl rfl (fun wx hx K hK => ?_)
      rw [hT] at hx
      go_simp
      refine (HIH.out r (.node l' k' v' r') Ar nr cr _ 1 d wx (by simp only [BT.size]; omega) (HR.out.ext (HE0.out.trans hx.1)) (HMB.out.ext (HE0.out.trans hx.1))).mono ?_
      rintro e wy ⟨A1, n1, c1, rfl, hG, hE⟩
      refine hK _ _ ⟨fun wz => T wz ∧ BAt wz (joinF f r (.node l' k' v' r')) A1 n1, hTs.and (fun _ _ e h => MapAt.ext h e), (fun _ h => h.1), ⟨hTs _ _ hE (by rw [hT]; exact hx), hG⟩, ?_⟩
      clear hK K hx hE hG wx wy
      refine wpX_one 10 (by kernel_rfl) rfl rfl (fun wx hx K hK => ?_)
      have hx1 := hx.1
      rw [hT] at hx1
      go_simp
      refine (node_any _ _ HKS.out.1 HKS.out.2 (HL.out.ext (HE0.out.trans hx1.1)) hx.2).mono ?_
      rintro e wy ⟨g, rfl, hG, hE⟩
      refine hK _ _ ⟨fun wz => T wz ∧ BAt wz (BT.node l k v (joinF f r (.node l' k' v' r'))) (some ⟨g, 0, none⟩) 1, hTs.and (fun _ _ e h => MapAt.ext h e), (fun _ h => h.1), ⟨hTs _ _ hE hx.1, hG⟩, ?_⟩
      clear hK K hx hx1 hE hG wx wy
      refine wpX_one 11 (by kernel_rfl) rfl rfl (fun wx hx K hK => ?_)
      go_simp
      refine hK _ _ ⟨fun wz => T wz ∧ BAt wz (BT.node l k v (joinF f r (.node l' k' v' r'))) (some ⟨g, 0, none⟩) 1, hTs.and (fun _ _ e h => MapAt.ext h e), (fun _ h => h.1), hx, ?_⟩
      clear hK K hx wx
      refine wpX_done (by kernel_rfl) (fun wz hz => ?_) _
      have hz1 := hz.1
      rw [hT] at hz1
      have HZ := Lib.hid hz1.1; have HZ2 := Lib.hid hz.2; clear hz hz1 hT hTs
      go_wp2_with fail
      go_ret
      exact ⟨_, _, _, rfl, by rw [HV.out]; exact HZ2.out, HE0.out.trans HZ.out⟩
    | false =>
      have hv : joinF (f + 1) (.node l k v r) (.node l' k' v' r') = .node (joinF f (.node l k v r) l') k' v' r' := by rw [joinF, if_neg (by rw [HZB.out]; simp)]
      have HV := Lib.hid hv; have HKS := HK2; clear hv hz
      have c0 := hE0.cell C0'.out; have c1 := hE0.cell C1'.out; have c2 := hE0.cell C2'.out; have c3 := hE0.cell C3'.out
      clear hE0
      go_wp2_with fail
      clear c0 c1 c2 c3
      obtain ⟨gx, hgx⟩ : ∃ gx, w0.heap.size = gx := ⟨_, rfl⟩
      have hbx : Blk (w0.alloc (nodeObj k' v' Al' nl' cl' Ar' nr' cr')).drew gx (nodeObj k' v' Al' nl' cl' Ar' nr' cr') := (Blk.new w0 _ hgx.symm).drew
      have hEx : Ext w0 (w0.alloc (nodeObj k' v' Al' nl' cl' Ar' nr' cr')).drew := ((Ext.refl w0).alloc _).drew
      rw [hgx]
      obtain ⟨T, hT⟩ : ∃ T, T = (fun wx => Ext w0 wx ∧ Blk wx gx (nodeObj k' v' Al' nl' cl' Ar' nr' cr')) := ⟨_, rfl⟩
      have hTs : Stab T := by rw [hT]; exact (Stab.ext _).and (Stab.blk _ _)
      refine wp_region_X (T := T) T (by kernel_rfl) (by rw [hT]; exact ⟨hEx, hbx⟩) (wpX_takes (by kernel_rfl) (fun _ d _ _ _ h => by cases d <;> exact h) hTs (fun _ h => h) (fuel := 3) [0,1,2,3,4,5,6,8,9] _ _ (by kernel_rfl) ?_)
      clear hbx hEx
      iterate 9
        refine wpTk_want rfl (Eq.refl true) ?_
        apply Exists.intro
        refine ⟨fun wx hx => ?_, ?_⟩
        · rw [hT] at hx
          obtain ⟨d0, d1, d2, d3⟩ := hx.2.cells4
          clear hx
          go_simp
          with_reducible exact gives_ok _ _ _
        simp only [Act.put, List.setIfInBounds_toArray, List.set_cons_zero, List.set_cons_succ]
      refine wpTk_nil ?_
      refine wpX_one 7 (by kernel_rfl) rfl rfl (fun wx hx K hK => ?_)
      rw [hT] at hx
      go_simp
      refine (HIH.out (.node l k v r) l' _ 1 c Al' nl' cl' wx (by simp only [BT.size]; omega) (HMA.out.ext (HE0.out.trans hx.1)) (HL'.out.ext (HE0.out.trans hx.1))).mono ?_
      rintro e wy ⟨A1, n1, c1, rfl, hG, hE⟩
      refine hK _ _ ⟨fun wz => T wz ∧ BAt wz (joinF f (.node l k v r) l') A1 n1, hTs.and (fun _ _ e h => MapAt.ext h e), (fun _ h => h.1), ⟨hTs _ _ hE (by rw [hT]; exact hx), hG⟩, ?_⟩
      clear hK K hx hE hG wx wy
      refine wpX_one 10 (by kernel_rfl) rfl rfl (fun wx hx K hK => ?_)
      have hx1 := hx.1
      rw [hT] at hx1
      go_simp
      refine (node_any _ _ HKS.out.1 HKS.out.2 hx.2 (HR'.out.ext (HE0.out.trans hx1.1))).mono ?_
      rintro e wy ⟨g, rfl, hG, hE⟩
      refine hK _ _ ⟨fun wz => T wz ∧ BAt wz (BT.node (joinF f (.node l k v r) l') k' v' r') (some ⟨g, 0, none⟩) 1, hTs.and (fun _ _ e h => MapAt.ext h e), (fun _ h => h.1), ⟨hTs _ _ hE hx.1, hG⟩, ?_⟩
      clear hK K hx hx1 hE hG wx wy
      refine wpX_one 11 (by kernel_rfl) rfl rfl (fun wx hx K hK => ?_)
      go_simp
      refine hK _ _ ⟨fun wz => T wz ∧ BAt wz (BT.node (joinF f (.node l k v r) l') k' v' r') (some ⟨g, 0, none⟩) 1, hTs.and (fun _ _ e h => MapAt.ext h e), (fun _ h => h.1), hx, ?_⟩
      clear hK K hx wx
      refine wpX_done (by kernel_rfl) (fun wz hz => ?_) _
      have hz1 := hz.1
      rw [hT] at hz1
      have HZ := Lib.hid hz1.1; have HZ2 := Lib.hid hz.2; clear hz hz1 hT hTs
      go_wp2_with fail
      go_ret
      exact ⟨_, _, _, rfl, by rw [HV.out]; exact HZ2.out, HE0.out.trans HZ.out⟩

set_option maxRecDepth 100000 in
set_option maxHeartbeats 8000000 in
theorem put_any (k v : ByteArray) (hk : k.size ≤ Reach) (hv0 : v.size ≤ Reach) : ∀ (t : BT) (A : Option Addr) (n c : Nat) (w : World), BAt w t A n → Calls Try.prog 54 #[.slice A n c, .string k, .string v] w (Got (putV k v t) w)
  | .leaf, A, n, c, w, hm => by
    obtain rfl := hm.leaf
    clear hm
    go_enter Try.func54, Try.ntmps54
    go_wp2_with fail
    refine (node_any (l := .leaf) (r := .leaf) 0 0 hk hv0 (MapAt.nil _ _) (MapAt.nil _ _)).mono ?_
    rintro e w1 ⟨g, rfl, hg, hE⟩
    have HG := Lib.hid hg; have HE := Lib.hid hE; clear hg hE
    go_wp2_with fail
    go_ret
    exact ⟨_, 1, 1, rfl, HG.out, HE.out⟩
  | .node l k' v' r, A, n, c, w, hm => by
    have IHL := put_any k v hk hv0 l
    have IHR := put_any k v hk hv0 r
    have HM := Lib.hid hm
    obtain ⟨b, off, Al, nl, cl, Ar, nr, cr, rfl, rfl, hb, hks, c0, c1, c2, c3, hl, hr⟩ := hm.node
    obtain ⟨gx, hgx⟩ : ∃ gx, w.heap.size = gx := ⟨_, rfl⟩
    have hbx : Blk (w.alloc (nodeObj k' v' Al nl cl Ar nr cr)) gx (nodeObj k' v' Al nl cl Ar nr cr) := Blk.new w _ hgx.symm
    have hEx : Ext w (w.alloc (nodeObj k' v' Al nl cl Ar nr cr)) := (Ext.refl w).alloc _
    have HL := Lib.hid hl; have HR := Lib.hid hr; have HKS := Lib.hid hks; have IL := Lib.hid IHL; have IR := Lib.hid IHR; have HBX := Lib.hid hbx; have HEX := Lib.hid hEx; have HGX := Lib.hid hgx
    clear hl hr hks IHL IHR hm hbx hEx
    by_cases h1 : k' = k
    · have q1 : (k'.toList == k.toList) = true := by rw [h1]; simp
      have hv : putV k v (.node l k' v' r) = .node l k v r := by rw [putV, if_pos h1]
      have HV := Lib.hid hv; clear hv h1
      go_enter Try.func54, Try.ntmps54
      go_wp2_with fail
      refine (node_any _ _ hk hv0 (HL.out.ext HEX.out) (HR.out.ext HEX.out)).mono ?_
      rintro e w1 ⟨g, rfl, hg, hE⟩
      have HG := Lib.hid hg; have HE := Lib.hid (HEX.out.trans hE); clear hg hE
      go_wp2_with fail
      go_ret
      exact ⟨_, 1, 1, rfl, by rw [HV.out]; exact HG.out, HE.out⟩
    have q1 : (k'.toList == k.toList) = false := ne_list h1
    obtain ⟨z, hz⟩ : ∃ z, ahB k k' = z := ⟨_, rfl⟩
    have HZB := Lib.hid hz
    cases z with
    | true =>
      have hv : putV k v (.node l k' v' r) = .node (splitV k (.node l k' v' r)).1 k v (splitV k (.node l k' v' r)).2 := by rw [putV, if_neg h1, if_pos hz]
      have HV := Lib.hid hv; clear hv h1 hz
      go_enter Try.func54, Try.ntmps54
      go_wp2_with fail
      refine (ahead_is HZB.out hk HKS.out.1).mono ?_
      rintro e w' ⟨rfl, rfl⟩
      go_wp2_with fail
      refine (split_any k (.node l k' v' r) _ 1 c _ (HM.out.ext HEX.out)).mono ?_
      rintro e w1 ⟨A1, n1, c1', B1, m1, d1, rfl, hg1, hg2, hE⟩
      have HG1 := Lib.hid hg1; have HG2 := Lib.hid hg2; have HE1 := Lib.hid (HEX.out.trans hE)
      clear hg1 hg2 hE c0 c1 c2 c3
      go_wp2_with fail
      refine (node_any _ _ hk hv0 HG1.out HG2.out).mono ?_
      rintro e w2 ⟨g, rfl, hg, hE⟩
      have HG := Lib.hid hg; have HE2 := Lib.hid (HE1.out.trans hE); clear hg hE
      go_wp2_with fail
      go_ret
      exact ⟨_, 1, 1, rfl, by rw [HV.out]; exact HG.out, HE2.out⟩
    | false =>
      by_cases h2 : klt k k' = true
      · have q2 : Op.bytesLess k.toList k'.toList = true := h2
        have hv : putV k v (.node l k' v' r) = .node (putV k v l) k' v' r := by rw [putV, if_neg h1, if_neg (by rw [hz]; simp), if_pos h2]
        have HV := Lib.hid hv; clear hv h1 h2 hz
        go_enter Try.func54, Try.ntmps54
        go_wp2_with fail
        refine (ahead_is HZB.out hk HKS.out.1).mono ?_
        rintro e w' ⟨rfl, rfl⟩
        go_wp2_with fail
        clear c0 c1 c2 c3 hgx
        have hbx : Blk (w.alloc (nodeObj k' v' Al nl cl Ar nr cr)).drew gx (nodeObj k' v' Al nl cl Ar nr cr) := HBX.out.drew
        have hEx : Ext w (w.alloc (nodeObj k' v' Al nl cl Ar nr cr)).drew := HEX.out.drew
        obtain ⟨T, hT⟩ : ∃ T, T = (fun wx => Ext w wx ∧ Blk wx gx (nodeObj k' v' Al nl cl Ar nr cr)) := ⟨_, rfl⟩
        have hTs : Stab T := by rw [hT]; exact (Stab.ext _).and (Stab.blk _ _)
        refine wp_region_X (T := T) T (by kernel_rfl) (by rw [hT]; exact ⟨hEx, hbx⟩) (wpX_takes (by kernel_rfl) (fun _ d _ _ _ h => by cases d <;> exact h) hTs (fun _ h => h) (fuel := 3) [0,1,2,3,4,5,6,7,9,10] _ _ (by kernel_rfl) ?_)
        clear hbx hEx
        iterate 10
          refine wpTk_want rfl (Eq.refl true) ?_
          apply Exists.intro
          refine ⟨fun wx hx => ?_, ?_⟩
          · rw [hT] at hx
            obtain ⟨d0, d1, d2, d3⟩ := hx.2.cells4
            clear hx
            go_simp
            with_reducible exact gives_ok _ _ _
          simp only [Act.put, List.setIfInBounds_toArray, List.set_cons_zero, List.set_cons_succ]
        refine wpTk_nil ?_
        refine wpX_one 8 (by kernel_rfl) rfl rfl (fun wx hx K hK => ?_)
        rw [hT] at hx
        go_simp
        refine (IL.out Al nl cl wx (HL.out.ext hx.1)).mono ?_
        rintro e wy ⟨A1, n1, c1, rfl, hG, hE⟩
        refine hK _ _ ⟨fun wz => T wz ∧ BAt wz (putV k v l) A1 n1, hTs.and (fun _ _ e h => MapAt.ext h e), (fun _ h => h.1), ⟨hTs _ _ hE (by rw [hT]; exact hx), hG⟩, ?_⟩
        clear hK K hx hE hG wx wy
        refine wpX_one 11 (by kernel_rfl) rfl rfl (fun wx hx K hK => ?_)
        have hx1 := hx.1
        rw [hT] at hx1
        go_simp
        refine (node_any _ _ HKS.out.1 HKS.out.2 hx.2 (HR.out.ext hx1.1)).mono ?_
        rintro e wy ⟨g, rfl, hG, hE⟩
        refine hK _ _ ⟨fun wz => T wz ∧ BAt wz (BT.node (putV k v l) k' v' r) (some ⟨g, 0, none⟩) 1, hTs.and (fun _ _ e h => MapAt.ext h e), (fun _ h => h.1), ⟨hTs _ _ hE hx.1, hG⟩, ?_⟩
        clear hK K hx hx1 hE hG wx wy
        refine wpX_one 12 (by kernel_rfl) rfl rfl (fun wx hx K hK => ?_)
        go_simp
        refine hK _ _ ⟨fun wz => T wz ∧ BAt wz (BT.node (putV k v l) k' v' r) (some ⟨g, 0, none⟩) 1, hTs.and (fun _ _ e h => MapAt.ext h e), (fun _ h => h.1), hx, ?_⟩
        clear hK K hx wx
        refine wpX_done (by kernel_rfl) (fun wz hz => ?_) _
        have hz1 := hz.1
        rw [hT] at hz1
        have HZ := Lib.hid hz1.1; have HZ2 := Lib.hid hz.2; clear hz hz1 hT hTs
        go_wp2_with fail
        go_ret
        exact ⟨_, _, _, rfl, by rw [HV.out]; exact HZ2.out, HZ.out⟩
      · have q2 : Op.bytesLess k.toList k'.toList = false := by simpa [klt] using h2
        have hv : putV k v (.node l k' v' r) = .node l k' v' (putV k v r) := by rw [putV, if_neg h1, if_neg (by rw [hz]; simp), if_neg h2]
        have HV := Lib.hid hv; clear hv h1 h2 hz
        go_enter Try.func54, Try.ntmps54
        go_wp2_with fail
        refine (ahead_is HZB.out hk HKS.out.1).mono ?_
        rintro e w' ⟨rfl, rfl⟩
        go_wp2_with fail
        clear c0 c1 c2 c3 hgx
        have hbx : Blk (w.alloc (nodeObj k' v' Al nl cl Ar nr cr)).drew gx (nodeObj k' v' Al nl cl Ar nr cr) := HBX.out.drew
        have hEx : Ext w (w.alloc (nodeObj k' v' Al nl cl Ar nr cr)).drew := HEX.out.drew
        obtain ⟨T, hT⟩ : ∃ T, T = (fun wx => Ext w wx ∧ Blk wx gx (nodeObj k' v' Al nl cl Ar nr cr)) := ⟨_, rfl⟩
        have hTs : Stab T := by rw [hT]; exact (Stab.ext _).and (Stab.blk _ _)
        refine wp_region_X (T := T) T (by kernel_rfl) (by rw [hT]; exact ⟨hEx, hbx⟩) (wpX_takes (by kernel_rfl) (fun _ d _ _ _ h => by cases d <;> exact h) hTs (fun _ h => h) (fuel := 3) [0,1,2,3,4,5,6,7,8,9] _ _ (by kernel_rfl) ?_)
        clear hbx hEx
        iterate 10
          refine wpTk_want rfl (Eq.refl true) ?_
          apply Exists.intro
          refine ⟨fun wx hx => ?_, ?_⟩
          · rw [hT] at hx
            obtain ⟨d0, d1, d2, d3⟩ := hx.2.cells4
            clear hx
            go_simp
            with_reducible exact gives_ok _ _ _
          simp only [Act.put, List.setIfInBounds_toArray, List.set_cons_zero, List.set_cons_succ]
        refine wpTk_nil ?_
        refine wpX_one 10 (by kernel_rfl) rfl rfl (fun wx hx K hK => ?_)
        rw [hT] at hx
        go_simp
        refine (IR.out Ar nr cr wx (HR.out.ext hx.1)).mono ?_
        rintro e wy ⟨A1, n1, c1, rfl, hG, hE⟩
        refine hK _ _ ⟨fun wz => T wz ∧ BAt wz (putV k v r) A1 n1, hTs.and (fun _ _ e h => MapAt.ext h e), (fun _ h => h.1), ⟨hTs _ _ hE (by rw [hT]; exact hx), hG⟩, ?_⟩
        clear hK K hx hE hG wx wy
        refine wpX_one 11 (by kernel_rfl) rfl rfl (fun wx hx K hK => ?_)
        have hx1 := hx.1
        rw [hT] at hx1
        go_simp
        refine (node_any _ _ HKS.out.1 HKS.out.2 (HL.out.ext hx1.1) hx.2).mono ?_
        rintro e wy ⟨g, rfl, hG, hE⟩
        refine hK _ _ ⟨fun wz => T wz ∧ BAt wz (BT.node l k' v' (putV k v r)) (some ⟨g, 0, none⟩) 1, hTs.and (fun _ _ e h => MapAt.ext h e), (fun _ h => h.1), ⟨hTs _ _ hE hx.1, hG⟩, ?_⟩
        clear hK K hx hx1 hE hG wx wy
        refine wpX_one 12 (by kernel_rfl) rfl rfl (fun wx hx K hK => ?_)
        go_simp
        refine hK _ _ ⟨fun wz => T wz ∧ BAt wz (BT.node l k' v' (putV k v r)) (some ⟨g, 0, none⟩) 1, hTs.and (fun _ _ e h => MapAt.ext h e), (fun _ h => h.1), hx, ?_⟩
        clear hK K hx wx
        refine wpX_done (by kernel_rfl) (fun wz hz => ?_) _
        have hz1 := hz.1
        rw [hT] at hz1
        have HZ := Lib.hid hz1.1; have HZ2 := Lib.hid hz.2; clear hz hz1 hT hTs
        go_wp2_with fail
        go_ret
        exact ⟨_, _, _, rfl, by rw [HV.out]; exact HZ2.out, HZ.out⟩

set_option maxRecDepth 100000 in
set_option maxHeartbeats 8000000 in
theorem without_any (k : ByteArray) : ∀ (t : BT) (A : Option Addr) (n c : Nat) (w : World), BAt w t A n → Calls Try.prog 60 #[.slice A n c, .string k] w (Got (woV k t) w)
  | .leaf, A, n, c, w, hm => by
    obtain rfl := hm.leaf
    clear hm
    go_enter Try.func60, Try.ntmps60
    go_wp2_with fail
    go_ret
    exact ⟨none, 0, 0, rfl, MapAt.nil _ _, Ext.refl _⟩
  | .node l k' v' r, A, n, c, w, hm => by
    have IHL := without_any k l
    have IHR := without_any k r
    obtain ⟨b, off, Al, nl, cl, Ar, nr, cr, rfl, rfl, hb, hks, c0, c1, c2, c3, hl, hr⟩ := hm.node
    obtain ⟨gx, hgx⟩ : ∃ gx, w.heap.size = gx := ⟨_, rfl⟩
    have hbx : Blk (w.alloc (nodeObj k' v' Al nl cl Ar nr cr)) gx (nodeObj k' v' Al nl cl Ar nr cr) := Blk.new w _ hgx.symm
    have hEx : Ext w (w.alloc (nodeObj k' v' Al nl cl Ar nr cr)) := (Ext.refl w).alloc _
    have HL := Lib.hid hl; have HR := Lib.hid hr; have HKS := Lib.hid hks; have IL := Lib.hid IHL; have IR := Lib.hid IHR; have HBX := Lib.hid hbx; have HEX := Lib.hid hEx; have HGX := Lib.hid hgx
    clear hl hr hks IHL IHR hm hbx hEx
    by_cases h1 : k = k'
    · have q1 : (k.toList == k'.toList) = true := by rw [h1]; simp
      have hv : woV k (.node l k' v' r) = joinV l r := by rw [woV, if_pos h1]
      have HV := Lib.hid hv; clear hv h1
      go_enter Try.func60, Try.ntmps60
      go_wp2_with fail
      refine (join_any (l.size + r.size + 1) l r Al nl cl Ar nr cr _ (by omega) (HL.out.ext HEX.out) (HR.out.ext HEX.out)).mono ?_
      rintro e w1 ⟨A1, n1, c1', rfl, hg, hE⟩
      have HG := Lib.hid hg; have HE := Lib.hid (HEX.out.trans hE); clear hg hE
      go_wp2_with fail
      go_ret
      exact ⟨_, _, _, rfl, by rw [HV.out]; exact HG.out, HE.out⟩
    have q1 : (k.toList == k'.toList) = false := ne_list h1
    by_cases h2 : klt k k' = true
    · have q2 : Op.bytesLess k.toList k'.toList = true := h2
      have hv : woV k (.node l k' v' r) = .node (woV k l) k' v' r := by rw [woV, if_neg h1, if_pos h2]
      have HV := Lib.hid hv; clear hv h1 h2
      go_enter Try.func60, Try.ntmps60
      go_wp2_with fail
      clear c0 c1 c2 c3 hgx
      have hbx : Blk (w.alloc (nodeObj k' v' Al nl cl Ar nr cr)).drew gx (nodeObj k' v' Al nl cl Ar nr cr) := HBX.out.drew
      have hEx : Ext w (w.alloc (nodeObj k' v' Al nl cl Ar nr cr)).drew := HEX.out.drew
      obtain ⟨T, hT⟩ : ∃ T, T = (fun wx => Ext w wx ∧ Blk wx gx (nodeObj k' v' Al nl cl Ar nr cr)) := ⟨_, rfl⟩
      have hTs : Stab T := by rw [hT]; exact (Stab.ext _).and (Stab.blk _ _)
      refine wp_region_X (T := T) T (by kernel_rfl) (by rw [hT]; exact ⟨hEx, hbx⟩) (wpX_takes (by kernel_rfl) (fun _ d _ _ _ h => by cases d <;> exact h) hTs (fun _ h => h) (fuel := 3) [0,1,2,3,4,5,6,8,9] _ _ (by kernel_rfl) ?_)
      clear hbx hEx
      iterate 9
        refine wpTk_want rfl (Eq.refl true) ?_
        apply Exists.intro
        refine ⟨fun wx hx => ?_, ?_⟩
        · rw [hT] at hx
          obtain ⟨d0, d1, d2, d3⟩ := hx.2.cells4
          clear hx
          go_simp
          with_reducible exact gives_ok _ _ _
        simp only [Act.put, List.setIfInBounds_toArray, List.set_cons_zero, List.set_cons_succ]
      refine wpTk_nil ?_
      refine wpX_one 7 (by kernel_rfl) rfl rfl (fun wx hx K hK => ?_)
      rw [hT] at hx
      go_simp
      refine (IL.out Al nl cl wx (HL.out.ext hx.1)).mono ?_
      rintro e wy ⟨A1, n1, c1, rfl, hG, hE⟩
      refine hK _ _ ⟨fun wz => T wz ∧ BAt wz (woV k l) A1 n1, hTs.and (fun _ _ e h => MapAt.ext h e), (fun _ h => h.1), ⟨hTs _ _ hE (by rw [hT]; exact hx), hG⟩, ?_⟩
      clear hK K hx hE hG wx wy
      refine wpX_one 10 (by kernel_rfl) rfl rfl (fun wx hx K hK => ?_)
      have hx1 := hx.1
      rw [hT] at hx1
      go_simp
      refine (node_any _ _ HKS.out.1 HKS.out.2 hx.2 (HR.out.ext hx1.1)).mono ?_
      rintro e wy ⟨g, rfl, hG, hE⟩
      refine hK _ _ ⟨fun wz => T wz ∧ BAt wz (BT.node (woV k l) k' v' r) (some ⟨g, 0, none⟩) 1, hTs.and (fun _ _ e h => MapAt.ext h e), (fun _ h => h.1), ⟨hTs _ _ hE hx.1, hG⟩, ?_⟩
      clear hK K hx hx1 hE hG wx wy
      refine wpX_one 11 (by kernel_rfl) rfl rfl (fun wx hx K hK => ?_)
      go_simp
      refine hK _ _ ⟨fun wz => T wz ∧ BAt wz (BT.node (woV k l) k' v' r) (some ⟨g, 0, none⟩) 1, hTs.and (fun _ _ e h => MapAt.ext h e), (fun _ h => h.1), hx, ?_⟩
      clear hK K hx wx
      refine wpX_done (by kernel_rfl) (fun wz hz => ?_) _
      have hz1 := hz.1
      rw [hT] at hz1
      have HZ := Lib.hid hz1.1; have HZ2 := Lib.hid hz.2; clear hz hz1 hT hTs
      go_wp2_with fail
      go_ret
      exact ⟨_, _, _, rfl, by rw [HV.out]; exact HZ2.out, HZ.out⟩
    · have q2 : Op.bytesLess k.toList k'.toList = false := by simpa [klt] using h2
      have hv : woV k (.node l k' v' r) = .node l k' v' (woV k r) := by rw [woV, if_neg h1, if_neg h2]
      have HV := Lib.hid hv; clear hv h1 h2
      go_enter Try.func60, Try.ntmps60
      go_wp2_with fail
      clear c0 c1 c2 c3 hgx
      have hbx : Blk (w.alloc (nodeObj k' v' Al nl cl Ar nr cr)).drew gx (nodeObj k' v' Al nl cl Ar nr cr) := HBX.out.drew
      have hEx : Ext w (w.alloc (nodeObj k' v' Al nl cl Ar nr cr)).drew := HEX.out.drew
      obtain ⟨T, hT⟩ : ∃ T, T = (fun wx => Ext w wx ∧ Blk wx gx (nodeObj k' v' Al nl cl Ar nr cr)) := ⟨_, rfl⟩
      have hTs : Stab T := by rw [hT]; exact (Stab.ext _).and (Stab.blk _ _)
      refine wp_region_X (T := T) T (by kernel_rfl) (by rw [hT]; exact ⟨hEx, hbx⟩) (wpX_takes (by kernel_rfl) (fun _ d _ _ _ h => by cases d <;> exact h) hTs (fun _ h => h) (fuel := 3) [0,1,2,3,4,5,6,7,8] _ _ (by kernel_rfl) ?_)
      clear hbx hEx
      iterate 9
        refine wpTk_want rfl (Eq.refl true) ?_
        apply Exists.intro
        refine ⟨fun wx hx => ?_, ?_⟩
        · rw [hT] at hx
          obtain ⟨d0, d1, d2, d3⟩ := hx.2.cells4
          clear hx
          go_simp
          with_reducible exact gives_ok _ _ _
        simp only [Act.put, List.setIfInBounds_toArray, List.set_cons_zero, List.set_cons_succ]
      refine wpTk_nil ?_
      refine wpX_one 9 (by kernel_rfl) rfl rfl (fun wx hx K hK => ?_)
      rw [hT] at hx
      go_simp
      refine (IR.out Ar nr cr wx (HR.out.ext hx.1)).mono ?_
      rintro e wy ⟨A1, n1, c1, rfl, hG, hE⟩
      refine hK _ _ ⟨fun wz => T wz ∧ BAt wz (woV k r) A1 n1, hTs.and (fun _ _ e h => MapAt.ext h e), (fun _ h => h.1), ⟨hTs _ _ hE (by rw [hT]; exact hx), hG⟩, ?_⟩
      clear hK K hx hE hG wx wy
      refine wpX_one 10 (by kernel_rfl) rfl rfl (fun wx hx K hK => ?_)
      have hx1 := hx.1
      rw [hT] at hx1
      go_simp
      refine (node_any _ _ HKS.out.1 HKS.out.2 (HL.out.ext hx1.1) hx.2).mono ?_
      rintro e wy ⟨g, rfl, hG, hE⟩
      refine hK _ _ ⟨fun wz => T wz ∧ BAt wz (BT.node l k' v' (woV k r)) (some ⟨g, 0, none⟩) 1, hTs.and (fun _ _ e h => MapAt.ext h e), (fun _ h => h.1), ⟨hTs _ _ hE hx.1, hG⟩, ?_⟩
      clear hK K hx hx1 hE hG wx wy
      refine wpX_one 11 (by kernel_rfl) rfl rfl (fun wx hx K hK => ?_)
      go_simp
      refine hK _ _ ⟨fun wz => T wz ∧ BAt wz (BT.node l k' v' (woV k r)) (some ⟨g, 0, none⟩) 1, hTs.and (fun _ _ e h => MapAt.ext h e), (fun _ h => h.1), hx, ?_⟩
      clear hK K hx wx
      refine wpX_done (by kernel_rfl) (fun wz hz => ?_) _
      have hz1 := hz.1
      rw [hT] at hz1
      have HZ := Lib.hid hz1.1; have HZ2 := Lib.hid hz.2; clear hz hz1 hT hTs
      go_wp2_with fail
      go_ret
      exact ⟨_, _, _, rfl, by rw [HV.out]; exact HZ2.out, HZ.out⟩
end Go.Proofs.Ytbjniaihkllmdaa

/- Contracts of the reference: middle, and Diff with fuel. -/
import Derived.Test.YtmmhbnlafcmloaaPaRRuns
import Derived.Test.YtmmhbnlafcmloaaPaRCom
import Derived.Test.YtmmhbnlafcmloaaPaLongW
import Derived.Test.YtmmhbnlafcmloaaPaKeptM
import Derived.Test.YtmmhbnlafcmloaaPaDif
import Derived.Test.YtmmhbnlafcmloaaMyRefDiff
namespace Go.Proofs.Ytmmhbnlafcmloaa
open Go.RowKit

section
variable {P : Program}
theorem wpX_append_size2 {Q : Exit → Act → World → Prop} {T : World → Prop} {md : Region.Mode} {l : List Oper} (i : Nat) {o : Oper} {fuel : Nat} {listed : Array Bool} {S : World → Prop} {a : Act} (hr : Region.ready md l.toArray listed = [i]) (ho : nth l i = some o) (hg : o.guard = none)
    (s x : Operand) (t : TypeId) (hop : o.op = .call { callee := .builtin .append, args := #[s, x], argTypes := #[t, t] })
    (base : Nat) (e : TypeId) (inf : TypeInfo) (z : Value) (size bytes : Nat) (ht : P.underlying t = some (.slice e)) (hi : P.info? e = some inf) (hz : inf.zero = some z)
    (hsize : inf.size = size) (hby : inf.bytes = bytes) (hzs : z.cells.size = size) (hsz : 0 < size) (v : Value) (n : Nat) (xs : List Value) (A : Option Addr) (m c : Nat) (news : List Value)
    (hs : a.eval s = v) (hx : a.eval x = .slice A m c) (hl : news.length = m * size) (h1 : ∀ u ∈ news, u.oneCell' = true) (h63 : n + m ≤ maxLen) (hbytes : (n + m) * bytes ≤ 140737488355328)
    (hS : ∀ w, S w → w.ownsRow base e size v n xs ∧ Cells w A news ∧ base ≤ w.heap.size)
    (h : ∀ w, S w → ∀ v' w', w'.ownsRow base e size v' (n + m) (xs ++ news) → w.grownBy w' v.ownBlock → (v'.ownBlock = v.ownBlock ∨ ∃ g, v'.ownBlock = some g ∧ w.heap.size ≤ g) →
      ∃ S' : World → Prop, Stab S' ∧ (∀ w, S' w → T w) ∧ S' w' ∧ wpX P md l.toArray Q T fuel (listed.setIfInBounds i true) S' (a.put o.dst v')) : wpX P md l.toArray Q T (fuel + 1) listed S a := by
  refine wpX_one i hr ho hg fun w hw K hK => ?_
  obtain ⟨h2, h3, h4⟩ := hS w hw
  obtain ⟨v', w', hrun, hown, hgrow, hblk⟩ := run_append_size2 (P := P) (w := w) base t o.type e inf z size bytes ht hi hz hsize hby hzs hsz v n xs h2 A m c news hl h3 h1 h63 hbytes h4
  unfold Oper.wp
  simp [execOp, hop, resolve, invoke, builtin, hs, hx, hrun, Result.andThen]
  exact hK _ _ (h w hw v' w' hown hgrow hblk)
end
theorem Blk.own_far {w w' : World} {g : Nat} {o : Obj} {v : Value} (hb : Blk w g o) (hne : v.ownBlock ≠ some g) (hg : w.grownBy w' v.ownBlock) : Blk w' g o :=
  (hg.block g hb.lt (fun e => hne e.symm)).trans hb

theorem pcs_bnd {a b : Lns} {L : Nat} : ∀ (l : List Mt) (x y X Y : Int), PcS a b x y l X Y → 0 ≤ x → 0 ≤ y → X ≤ L → Y ≤ L → Bnd L l ∧ x ≤ X ∧ y ≤ Y
  | [], x, y, X, Y, h, _, _, _, _ => ⟨by intro m hm; simp at hm, h⟩
  | m :: r, x, y, X, Y, h, hx, hy, hX, hY => by
    obtain ⟨g1, g2, g3, _, g5⟩ := h
    obtain ⟨i1, i2, i3⟩ := pcs_bnd r _ _ X Y g5 (by omega) (by omega) hX hY
    refine ⟨fun z hz => ?_, by omega, by omega⟩
    rcases List.mem_cons.1 hz with rfl | hz
    · exact ⟨⟨by omega, by omega⟩, ⟨by omega, by omega⟩, g1⟩
    · exact i1 z hz
theorem rd_pcs (f : Nat) (a b : Lns) : PcS a b 0 0 (rdV f a b) a.length b.length := by
  cases f with
  | zero => exact ⟨by omega, by omega⟩
  | succ f => rw [rd_eq]; exact check_pcs0 (pd_ok (f + 1) a b)
theorem rd_len (f : Nat) (a b : Lns) : (rdV f a b).length ≤ 5 * (a.length + b.length) + 2 := by
  cases f with
  | zero => simp [rdV]
  | succ f => rw [rd_eq]; exact pd_len (f + 1) a b
theorem rd_bnd (f : Nat) (a b : Lns) (L : Nat) (ha : a.length ≤ L) (hb : b.length ≤ L) : Bnd L (rdV f a b) := (pcs_bnd _ _ _ _ _ (rd_pcs f a b) (by omega) (by omega) (by omega) (by omega)).1
theorem rmid_pcs (f : Nat) (a b : Lns) : PcS a b 0 0 (midG (rdV f) a b) a.length b.length := by
  unfold midG
  split
  · exact check_pcs0 (diff_ok a b).1
  · exact part_pcs (fun x y => rd_pcs f x y) a b _ 0 0 (uniq_asc a b) (long_mt a b)
theorem rmid_len (f : Nat) (a b : Lns) : (midG (rdV f) a b).length ≤ 5 * (a.length + b.length) + 2 := by
  unfold midG
  split
  · have := diff_len a b; have := dist_le a b; omega
  · have := part_len (D := rdV f) (a := a) (b := b) (fun x y _ => rd_len f x y) _ 0 0 (uniq_asc a b); omega
theorem rmid_bnd (f : Nat) (a b : Lns) (L : Nat) (ha : a.length ≤ L) (hb : b.length ≤ L) : Bnd L (midG (rdV f) a b) := (pcs_bnd _ _ _ _ _ (rmid_pcs f a b) (by omega) (by omega) (by omega) (by omega)).1
theorem shV_bnd {L : Nat} {l : List Mt} (h : Bnd L l) (p : Nat) {q : Nat} (hq : q ≤ p) (M : Nat) (hM : L + p ≤ M) (x y : Nat) (hx : x ≤ p) (hy : y ≤ p) : Bnd M (shV l x y) := fun m hm => by
  obtain ⟨z, hz, rfl⟩ := List.mem_map.1 hm
  have := h z hz
  simp only [mvM]; omega

/-- What the reference's Diff promises, with fuel. -/
def DRP (f : Nat) (a b : Lns) (w : World) (e : Ending) (w' : World) : Prop :=
  ∃ v, e = .returned v ∧ w'.ownsRow w.heap.size 32 3 v (rdV f a b).length ((rdV f a b).flatMap Mt.cells) ∧ Ext w w'
def DRAll (f : Nat) : Prop := ∀ (A B : Option Addr) (n c m d : Nat) (a b : Lns) (w : World), a.length < f → Strs w A n a → Strs w B m b → n ≤ 60 → m ≤ 60 → n ≤ c → m ≤ d →
    Calls Try.prog 19 #[.slice A n c, .slice B m d] w (DRP f a b w)

theorem runique_is (A B : Option Addr) (n c m d : Nat) (a b : Lns) (w : World) (ha : Strs w A n a) (hb : Strs w B m b) (hn : n ≤ 125) (hm : m ≤ 125) :
    Calls Try.prog 14 #[.slice A n c, .slice B m d] w fun e w' => ∃ C k, e = .returned (.slice C (uniqV a b).length k) ∧ Mts w' C (uniqV a b).length (uniqV a b) ∧ Ext w w' := by
  refine (runique_any A B n c m d a b w ha hb (by omega) (by omega)).mono ?_
  rintro e w' ⟨v, rfl, ho, hE⟩
  have hla := ha.1; have hlb := hb.1
  obtain ⟨C, k, rfl, _, hM⟩ := ownM_mts ho ((uniq_bnd a b 500 (by omega) (by omega) _ (Nat.le_refl _)).wf (by omega))
  exact ⟨C, k, rfl, hM, hE⟩
theorem rshift_is (A : Option Addr) (n c : Nat) (ms : List Mt) (x y : Nat) (w : World) (ha : Mts w A n ms) (hs : Bnd 60 ms) (hn : n ≤ 1000) (hx : x ≤ 60) (hy : y ≤ 60) :
    Calls Try.prog 32 #[.slice A n c, .int .i64 x, .int .i64 y] w fun e w' => ∃ C k, e = .returned (.slice C n k) ∧ Mts w' C n (shV ms x y) ∧ Ext w w' := by
  refine (rshift_any A n c ms x y w ha (hs.small (by omega)) hn (by omega) (by omega)).mono ?_
  rintro e w' ⟨v, rfl, ho, hE⟩
  obtain ⟨C, k, rfl, _, hM⟩ := ownM_mts ho ((shV_bnd hs 60 (Nat.le_refl _) 120 (by omega) x y hx hy).wf (by omega))
  exact ⟨C, k, rfl, hM, hE⟩
theorem part_cons {D : Lns → Lns → List Mt} {a b : Lns} {p q ca cb : Nat} {cs : List Mt} : partG D a b p q ((⟨(ca : Int), (cb : Int), 1⟩ : Mt) :: cs) = shV (D (cutV a p ca) (cutV b q cb)) p q ++ [⟨(ca : Int), (cb : Int), 1⟩] ++ partG D a b (ca + 1) (cb + 1) cs := rfl
theorem asc_cons {A B p q : Nat} {c : Mt} {cs : List Mt} (h : Asc A B p q (c :: cs)) : ∃ ca cb : Nat, c = ⟨(ca : Int), (cb : Int), 1⟩ ∧ p ≤ ca ∧ q ≤ cb ∧ ca < A ∧ cb < B ∧ Asc A B (ca + 1) (cb + 1) cs := by
  obtain ⟨x, y, n⟩ := c
  obtain ⟨h1, h2, h3, h4, h5, h6⟩ := h
  dsimp only at h1 h2 h3 h4 h5 h6
  refine ⟨x.toNat, y.toNat, by rw [h5, Int.toNat_of_nonneg (by omega), Int.toNat_of_nonneg (by omega)], by omega, by omega, by omega, by omega, h6⟩

set_option maxRecDepth 100000 in
set_option maxHeartbeats 16000000 in
theorem rmiddle_any (f : Nat) (IH : DRAll f) (A B : Option Addr) (n c m d : Nat) (a b : Lns) (w : World) (ha : Strs w A n a) (hb : Strs w B m b) (hn : n ≤ 60) (hm : m ≤ 60) (hnc : n ≤ c) (hmd : m ≤ d) (hf : a.length ≤ f) :
    Calls Try.prog 33 #[.slice A n c, .slice B m d] w fun e w' => ∃ v, e = .returned v ∧ w'.ownsRow w.heap.size 32 3 v (midG (rdV f) a b).length ((midG (rdV f) a b).flatMap Mt.cells) ∧ Ext w w' := by
  obtain rfl : a.length = n := ha.1
  obtain rfl : b.length = m := hb.1
  have HA := Lib.hid ha; have HB := Lib.hid hb; have HIH := Lib.hid IH; clear ha hb IH
  obtain ⟨inf, i1, i2, i3, i4⟩ := info_of infoM'
  have I1 := Lib.hid i1; have I2 := Lib.hid i2; have I3 := Lib.hid i3; have I4 := Lib.hid i4; clear i1 i2 i3 i4
  obtain ⟨G, hG⟩ : ∃ G, midG (rdV f) a b = G := ⟨_, rfl⟩
  have hGl : G.length ≤ 602 := by rw [← hG]; have := rmid_len f a b; omega
  have hul := uniqP_len a b a.length
  change (uniqV a b).length ≤ _ at hul
  have hasc := uniq_asc a b
  have hll := long_le (uniqV a b)
  obtain ⟨ch, hch⟩ : ∃ ch, longV (uniqV a b) = ch := ⟨_, rfl⟩
  have hG2 : G = if ch = [] then diffV a b (dist a b) else partG (rdV f) a b 0 0 ch := by rw [← hG, midG, hch]
  rw [hch] at hasc hll
  have hcl2 : ch.length ≤ 60 := by omega
  clear hll
  rw [hG]
  have HCH := Lib.hid hch; have HASC := Lib.hid hasc; have HG2 := Lib.hid hG2; clear hG hG2 hch hasc
  go_enter Try.func33, Try.ntmps33
  go_wp2_with fail
  refine (runique_is A B a.length c b.length d a b w HA.out HB.out (by omega) (by omega)).mono ?_
  rintro e w1 ⟨C1, k1, rfl, hM, hE⟩
  have HE1 := Lib.hid hE; have HM1 := Lib.hid hM; clear hE hM
  go_wp2_with fail
  refine (rlongest_is C1 _ k1 _ _ HM1.out (by omega)).mono ?_
  rintro e w2 ⟨C2, k2, rfl, hM, hE⟩
  rw [HCH.out] at hM ⊢
  have HE2 := Lib.hid (HE1.out.trans hE); have HM2 := Lib.hid hM; clear hE hM HE1 HM1
  by_cases h0 : ch = []
  · have hG := HG2.out
    rw [if_pos h0] at hG
    subst h0
    have HG := Lib.hid hG; clear hG HG2
    go_wp2_with fail
    refine (rdiff_any A B a.length c b.length d a b _ (HA.out.ext HE2.out) (HB.out.ext HE2.out) (by omega) (by omega)).mono ?_
    rintro e w3 ⟨v, N, rfl, ho, hwf, hE⟩
    rw [← HG.out] at ho
    have HO := Lib.hid ho; have HE3 := Lib.hid (HE2.out.trans hE); clear ho hE hwf
    go_wp2_with fail
    go_ret
    have hN : N = G.length := by have := HO.out.1; rw [flat_len mt_cells_len] at this; omega
    subst hN
    exact ⟨_, rfl, own_base HO.out HE2.out.size, HE3.out⟩
  have hG := HG2.out
  rw [if_neg h0] at hG
  have hcl : 0 < ch.length := List.length_pos_iff.2 h0
  have q0 : ((ch.length : Int) == 0) = false := beq_eq_false_iff_ne.2 (by omega)
  have HG := Lib.hid hG; clear hG HG2 h0
  go_wp2_with fail
  obtain ⟨w3, hw3⟩ : ∃ w3, w3 = w2.alloc (.cells #[] 32) := ⟨_, rfl⟩
  have hE3 : Ext w2 w3 := by rw [hw3]; exact (Ext.refl _).alloc _
  have hO3 : w3.ownsRow w2.heap.size 32 3 (.slice (some ⟨w2.heap.size, 0, none⟩) 0 0) 0 [] := by
    rw [hw3]; exact ⟨rfl, .inr ⟨w2.heap.size, 0, #[], rfl, Nat.le_refl _, heap_alloc_new w2 _, Nat.le_refl _, by simp [maxLen], rfl, rfl⟩⟩
  rw [← hw3]
  have HE3 := Lib.hid hE3; have HO3 := Lib.hid hO3; clear hw3 hE3 hO3 q0
  go_loopw [6, 7, 8, 9] (fun v6 v7 v8 v9 wr => ∃ (j p q : Nat) (P : List Mt), j ≤ ch.length ∧ v9 = .int .i64 j ∧ v7 = .int .i64 p ∧ v8 = .int .i64 q ∧ (0 < j → 0 < p) ∧ P ++ partG (rdV f) a b p q (ch.drop j) = G ∧ Asc a.length b.length p q (ch.drop j) ∧ wr.ownsRow w2.heap.size 32 3 v6 P.length (P.flatMap Mt.cells) ∧ Ext w2 wr) (fun _ _ _ v9 _ => ch.length - (intOf v9).toNat)
  case atStart => exact ⟨0, 0, 0, [], Nat.zero_le _, rfl, rfl, rfl, fun h => h, HG.out.symm, HASC.out, HO3.out, HE3.out⟩
  clear HO3 HE3
  case round =>
    obtain ⟨j, p, q, P, hj, rfl, rfl, rfl, hjp, hP, has, ho, hE⟩ := hrel
    have HO := Lib.hid ho; have HE := Lib.hid hE; have HP := Lib.hid hP; clear ho hE hP
    by_cases hlt : j < ch.length
    case neg =>
      obtain rfl : j = ch.length := by omega
      rw [List.drop_length] at has HP
      obtain ⟨hpa, hqb⟩ := has
      have hp0 := hjp hcl
      obtain ⟨D, hD⟩ : ∃ D, rdV f (cutV a p a.length) (cutV b q b.length) = D := ⟨_, rfl⟩
      have hP2 : P ++ shV D p q = G := by rw [← HP.out, ← hD, ← drop_cut, ← drop_cut]; rfl
      have hlA := cutV_len (a := a) (x := p) (Nat.le_refl a.length)
      have hlB := cutV_len (a := b) (x := q) (Nat.le_refl b.length)
      have hDb : Bnd 60 D := by rw [← hD]; exact rd_bnd f _ _ 60 (by omega) (by omega)
      have hDl : P.length + D.length ≤ 602 := by rw [← hP2, List.length_append] at hGl; simpa [shV] using hGl
      have HD := Lib.hid hD; have HDB := Lib.hid hDb; have HP2 := Lib.hid hP2; clear hD hDb hP2 HP hjp
      obtain ⟨A2, hA2⟩ : ∃ A2, (if c = p then A else A.map (fun z => z.add p)) = A2 := ⟨_, rfl⟩
      obtain ⟨B2, hB2⟩ : ∃ B2, (if d = q then B else B.map (fun z => z.add q)) = B2 := ⟨_, rfl⟩
      have sA : ∀ wx, Ext w2 wx → Strs wx A2 (a.length - p) (cutV a p a.length) := fun wx hx => strs_part (HA.out.ext (HE2.out.trans hx)) hnc (by omega) (by omega) hA2
      have sB : ∀ wx, Ext w2 wx → Strs wx B2 (b.length - q) (cutV b q b.length) := fun wx hx => strs_part (HB.out.ext (HE2.out.trans hx)) hmd (by omega) (by omega) hB2
      have HA2 := Lib.hid hA2; have HB2 := Lib.hid hB2; have SA := Lib.hid sA; have SB := Lib.hid sB; clear hA2 hB2 sA sB
      go_wp2_with fail
      obtain ⟨S, hS⟩ : ∃ S, S = (fun wz => Ext w2 wz ∧ wz.ownsRow w2.heap.size 32 3 u6 P.length (P.flatMap Mt.cells)) := ⟨_, rfl⟩
      have hSs : Stab S := by rw [hS]; exact (Stab.ext _).and (fun _ _ e h => own_stab3 e h)
      refine wp_region_X (T := fun wz => Ext w2 wz) S (by kernel_rfl) (by rw [hS]; exact ⟨HE.out.drew, own_stab3 (Ext.refl _).drew HO.out⟩) (wpX_takes (by kernel_rfl) (fun _ d _ _ _ h => by cases d <;> exact h) hSs (fun _ h => by rw [hS] at h; exact h.1) (fuel := 4) [0,1,2,3,4,5,6,8,9] _ _ (by kernel_rfl) ?_)
      iterate 3
        refine wpTk_want rfl (Eq.refl true) ?_
        apply Exists.intro
        refine ⟨fun wx hx => ?_, ?_⟩
        · clear hx
          go_simp
          with_reducible exact gives_ok _ _ _
        simp only [Act.put, List.setIfInBounds_toArray, List.set_cons_zero, List.set_cons_succ]
      refine wpTk_want rfl (Eq.refl true) ⟨.slice A2 (a.length - p) (c - p), fun wx hx => ?_, ?_⟩
      · clear hx
        go_simp
        rw [HA2.out]
        with_reducible exact gives_ok _ _ _
      simp only [Act.put, List.setIfInBounds_toArray, List.set_cons_zero, List.set_cons_succ]
      iterate 2
        refine wpTk_want rfl (Eq.refl true) ?_
        apply Exists.intro
        refine ⟨fun wx hx => ?_, ?_⟩
        · clear hx
          go_simp
          with_reducible exact gives_ok _ _ _
        simp only [Act.put, List.setIfInBounds_toArray, List.set_cons_zero, List.set_cons_succ]
      refine wpTk_want rfl (Eq.refl true) ⟨.slice B2 (b.length - q) (d - q), fun wx hx => ?_, ?_⟩
      · clear hx
        go_simp
        rw [HB2.out]
        with_reducible exact gives_ok _ _ _
      simp only [Act.put, List.setIfInBounds_toArray, List.set_cons_zero, List.set_cons_succ]
      iterate 2
        refine wpTk_want rfl (Eq.refl true) ?_
        apply Exists.intro
        refine ⟨fun wx hx => ?_, ?_⟩
        · clear hx
          go_simp
          with_reducible exact gives_ok _ _ _
        simp only [Act.put, List.setIfInBounds_toArray, List.set_cons_zero, List.set_cons_succ]
      refine wpTk_nil ?_
      refine wpX_one 7 (by kernel_rfl) rfl rfl (fun wx hx K hK => ?_)
      rw [hS] at hx
      go_simp
      refine (HIH.out A2 B2 (a.length - p) (c - p) (b.length - q) (d - q) (cutV a p a.length) (cutV b q b.length) wx (by omega) (SA.out _ hx.1) (SB.out _ hx.1) (by omega) (by omega) (by omega) (by omega)).mono ?_
      rintro e wy ⟨v3, rfl, ho, hE⟩
      rw [HD.out] at ho
      obtain ⟨A3, c3, rfl, hc3, hM3⟩ := ownM_mts ho (HDB.out.wf (by omega))
      refine hK _ _ ⟨fun wz => S wz ∧ Mts wz A3 D.length D, hSs.and (fun _ _ e h => h.ext e), (fun _ h => by have := h.1; rw [hS] at this; exact this.1), ⟨hSs _ _ hE (by rw [hS]; exact hx), hM3⟩, ?_⟩
      clear hK K hx ho hE hM3 wx wy
      refine wpX_one 10 (by kernel_rfl) rfl rfl (fun wx hx K hK => ?_)
      go_simp
      refine (rshift_is A3 D.length c3 D p q wx hx.2 HDB.out (by omega) (by omega) (by omega)).mono ?_
      rintro e wy ⟨A4, c4, rfl, hM4, hE⟩
      refine hK _ _ ⟨fun wz => S wz ∧ Mts wz A4 D.length (shV D p q), hSs.and (fun _ _ e h => Mts.ext h e), (fun _ h => by have := h.1; rw [hS] at this; exact this.1), ⟨hSs _ _ hE hx.1, hM4⟩, ?_⟩
      clear hK K hx hE hM4 wx wy
      refine wpX_append_size 11 (by kernel_rfl) rfl rfl (.tmp 58) (.tmp 68) 25 rfl w2.heap.size 32 inf _ 3 24 underM' I1.out I2.out I3.out I4.out rfl (by decide) u6 P.length (P.flatMap Mt.cells) A4 D.length c4 ((shV D p q).flatMap Mt.cells) rfl rfl (by rw [flat_len mt_cells_len, shV, List.length_map]) (one_mt _) (by simp only [maxLen]; omega) (by omega)
        (fun wx hx => by have h1 := hx.1; rw [hS] at h1; exact ⟨h1.2, hx.2.2.2, h1.1.size⟩) (fun wx hx v5 wy hown hg => ?_)
      refine ⟨fun wz => Ext w2 wz ∧ wz.ownsRow w2.heap.size 32 3 v5 _ _, (Stab.ext _).and (fun _ _ e h => own_stab3 e h), fun _ h => h.1, ⟨?_, hown⟩, ?_⟩
      · have h1 := hx.1; rw [hS] at h1; exact h1.1.own3 h1.2 hg
      clear hx hown hg wx wy
      refine wpX_one 12 (by kernel_rfl) rfl rfl (fun wx hx K hK => ?_)
      go_simp
      refine hK _ _ ⟨fun wz => Ext w2 wz ∧ wz.ownsRow w2.heap.size 32 3 v5 _ _, (Stab.ext _).and (fun _ _ e h => own_stab3 e h), fun _ h => h.1, hx, ?_⟩
      clear hK K hx wx
      refine wpX_done (by kernel_rfl) (fun wx hx => ?_) _
      obtain ⟨hx1, hx2⟩ := hx
      have HX1 := Lib.hid hx1; have HX2 := Lib.hid hx2; clear hx1 hx2
      go_wp2_with fail
      all_goals
        go_ret
        refine ⟨_, rfl, ?_, HE2.out.trans HX1.out⟩
        have h5 := own_base HX2.out (base' := w.heap.size) HE2.out.size
        rw [← HP2.out, List.length_append, List.flatMap_append]
        simpa [shV] using h5
    case pos =>
      obtain ⟨c0, hc0⟩ : ∃ c0, ch[j]? = some c0 := ⟨_, List.getElem?_eq_getElem hlt⟩
      have hdr : ch.drop j = c0 :: ch.drop (j + 1) := drop_of hc0
      rw [hdr] at has HP
      obtain ⟨ca, cb, rfl, hpa, hqb, hca, hcb, has2⟩ := asc_cons has
      rw [part_cons] at HP
      obtain ⟨D, hD⟩ : ∃ D, rdV f (cutV a p ca) (cutV b q cb) = D := ⟨_, rfl⟩
      rw [hD] at HP
      have hlA := cutV_len (a := a) (x := p) (y := ca) (by omega)
      have hlB := cutV_len (a := b) (x := q) (y := cb) (by omega)
      have hDb : Bnd 60 D := by rw [← hD]; exact rd_bnd f _ _ 60 (by omega) (by omega)
      have hDl : P.length + D.length + 1 ≤ 602 := by have h := HP.out; rw [← h] at hGl; simp only [List.length_append, shV, List.length_map, List.length_singleton] at hGl; omega
      obtain ⟨bc, oc, mt, hC, hbc, hmt, -, d0, d1, d2⟩ := (HM2.out.ext HE.out).get hlt
      rw [hc0] at hmt; cases hmt
      subst hC
      dsimp only at d0 d1 d2
      have HD := Lib.hid hD; have HDB := Lib.hid hDb; have HAS2 := Lib.hid has2; clear hD hDb has has2 hdr hc0 hjp
      obtain ⟨A2, hA2⟩ : ∃ A2, (if c = p then A else A.map (fun z => z.add p)) = A2 := ⟨_, rfl⟩
      obtain ⟨B2, hB2⟩ : ∃ B2, (if d = q then B else B.map (fun z => z.add q)) = B2 := ⟨_, rfl⟩
      have sA : ∀ wx, Ext w2 wx → Strs wx A2 (ca - p) (cutV a p ca) := fun wx hx => strs_part (HA.out.ext (HE2.out.trans hx)) hnc (by omega) (by omega) hA2
      have sB : ∀ wx, Ext w2 wx → Strs wx B2 (cb - q) (cutV b q cb) := fun wx hx => strs_part (HB.out.ext (HE2.out.trans hx)) hmd (by omega) (by omega) hB2
      have HA2 := Lib.hid hA2; have HB2 := Lib.hid hB2; have SA := Lib.hid sA; have SB := Lib.hid sB; clear hA2 hB2 sA sB
      have b1 : ca ≤ c := by omega
      have b2 : cb ≤ d := by omega
      go_wp2_with fail
      clear d0 d1 d2
      have hnb : u6.ownBlock ≠ some wr.heap.size := fun h => by have := (HO.out.lt _ h).2; omega
      obtain ⟨gc, hgc⟩ : ∃ gc, wr.heap.size = gc := ⟨_, rfl⟩
      have hbx : Blk ((wr.alloc (Mt.obj ⟨(ca : Int), (cb : Int), 1⟩)).drew) gc (Mt.obj ⟨(ca : Int), (cb : Int), 1⟩) := (Blk.new wr _ hgc.symm).drew
      obtain ⟨w4, hw4⟩ : ∃ w4, w4 = (wr.alloc (Mt.obj ⟨(ca : Int), (cb : Int), 1⟩)).drew := ⟨_, rfl⟩
      have hE4 : Ext wr w4 := by rw [hw4]; exact ((Ext.refl wr).alloc _).drew
      rw [← hw4] at hbx
      obtain ⟨S, hS⟩ : ∃ S, S = (fun wz => Ext w2 wz ∧ Blk wz gc (Mt.obj ⟨(ca : Int), (cb : Int), 1⟩) ∧ wz.ownsRow w2.heap.size 32 3 u6 P.length (P.flatMap Mt.cells)) := ⟨_, rfl⟩
      have hSs : Stab S := by rw [hS]; exact (Stab.ext _).and ((Stab.blk _ _).and (fun _ _ e h => own_stab3 e h))
      have hS4 : S (wr.alloc (Mt.obj ⟨(ca : Int), (cb : Int), 1⟩)).drew := by rw [← hw4, hS]; exact ⟨HE.out.trans hE4, hbx, own_stab3 hE4 HO.out⟩
      rw [hgc] at hnb ⊢
      refine wp_region_X (T := fun wz => Blk wz gc (Mt.obj ⟨(ca : Int), (cb : Int), 1⟩)) S (by kernel_rfl) hS4 (wpX_takes (by kernel_rfl) (fun _ d _ _ _ h => by cases d <;> exact h) hSs (fun _ h => by rw [hS] at h; exact h.2.1) (fuel := 4) [0,1,2,3,4,5,6,7,8,9,10,12,13] _ _ (by kernel_rfl) ?_)
      clear hS4 hbx hw4 hE4
      iterate 5
        refine wpTk_want rfl (Eq.refl true) ?_
        apply Exists.intro
        refine ⟨fun wx hx => ?_, ?_⟩
        · obtain ⟨d0, d1, d2⟩ := hx.cells3
          clear hx
          go_simp
          with_reducible exact gives_ok _ _ _
        simp only [Act.put, List.setIfInBounds_toArray, List.set_cons_zero, List.set_cons_succ]
      refine wpTk_want rfl (Eq.refl true) ⟨.slice A2 (ca - p) (c - p), fun wx hx => ?_, ?_⟩
      · clear hx
        go_simp
        rw [HA2.out]
        with_reducible exact gives_ok _ _ _
      simp only [Act.put, List.setIfInBounds_toArray, List.set_cons_zero, List.set_cons_succ]
      iterate 4
        refine wpTk_want rfl (Eq.refl true) ?_
        apply Exists.intro
        refine ⟨fun wx hx => ?_, ?_⟩
        · obtain ⟨d0, d1, d2⟩ := hx.cells3
          clear hx
          go_simp
          with_reducible exact gives_ok _ _ _
        simp only [Act.put, List.setIfInBounds_toArray, List.set_cons_zero, List.set_cons_succ]
      refine wpTk_want rfl (Eq.refl true) ⟨.slice B2 (cb - q) (d - q), fun wx hx => ?_, ?_⟩
      · clear hx
        go_simp
        rw [HB2.out]
        with_reducible exact gives_ok _ _ _
      simp only [Act.put, List.setIfInBounds_toArray, List.set_cons_zero, List.set_cons_succ]
      iterate 2
        refine wpTk_want rfl (Eq.refl true) ?_
        apply Exists.intro
        refine ⟨fun wx hx => ?_, ?_⟩
        · clear hx
          go_simp
          with_reducible exact gives_ok _ _ _
        simp only [Act.put, List.setIfInBounds_toArray, List.set_cons_zero, List.set_cons_succ]
      refine wpTk_nil ?_
      refine wpX_one 11 (by kernel_rfl) rfl rfl (fun wx hx K hK => ?_)
      rw [hS] at hx
      go_simp
      refine (HIH.out A2 B2 (ca - p) (c - p) (cb - q) (d - q) (cutV a p ca) (cutV b q cb) wx (by omega) (SA.out _ hx.1) (SB.out _ hx.1) (by omega) (by omega) (by omega) (by omega)).mono ?_
      rintro e wy ⟨v3, rfl, ho, hE⟩
      rw [HD.out] at ho
      obtain ⟨A3, c3, rfl, hc3, hM4⟩ := ownM_mts ho (HDB.out.wf (by omega))
      refine hK _ _ ⟨fun wz => S wz ∧ Mts wz A3 D.length D, hSs.and (fun _ _ e h => h.ext e), (fun _ h => by have := h.1; rw [hS] at this; exact this.2.1), ⟨hSs _ _ hE (by rw [hS]; exact hx), hM4⟩, ?_⟩
      clear hK K hx ho hE hM4 wx wy
      refine wpX_one 14 (by kernel_rfl) rfl rfl (fun wx hx K hK => ?_)
      go_simp
      refine (rshift_is A3 D.length c3 D p q wx hx.2 HDB.out (by omega) (by omega) (by omega)).mono ?_
      rintro e wy ⟨A4, c4, rfl, hM4, hE⟩
      refine hK _ _ ⟨fun wz => S wz ∧ Mts wz A4 D.length (shV D p q), hSs.and (fun _ _ e h => Mts.ext h e), (fun _ h => by have := h.1; rw [hS] at this; exact this.2.1), ⟨hSs _ _ hE hx.1, hM4⟩, ?_⟩
      clear hK K hx hE hM4 wx wy
      refine wpX_append_size2 15 (by kernel_rfl) rfl rfl (.tmp 32) (.tmp 46) 25 rfl w2.heap.size 32 inf _ 3 24 underM' I1.out I2.out I3.out I4.out rfl (by decide) u6 P.length (P.flatMap Mt.cells) A4 D.length c4 ((shV D p q).flatMap Mt.cells) rfl rfl (by rw [flat_len mt_cells_len, shV, List.length_map]) (one_mt _) (by simp only [maxLen]; omega) (by omega)
        (fun wx hx => by have h1 := hx.1; rw [hS] at h1; exact ⟨h1.2.2, hx.2.2.2, h1.1.size⟩) (fun wx hx v5 wy hown hg hbk => ?_)
      have hx1 := hx.1; rw [hS] at hx1
      have hne5 : v5.ownBlock ≠ some gc := by
        rcases hbk with h | ⟨g', h, h'⟩
        · rw [h]; exact hnb
        · rw [h]; intro e; cases e; have := hx1.2.1.lt; omega
      refine ⟨fun wz => Ext w2 wz ∧ Blk wz gc (Mt.obj ⟨(ca : Int), (cb : Int), 1⟩) ∧ wz.ownsRow w2.heap.size 32 3 v5 (P.length + D.length) (P.flatMap Mt.cells ++ (shV D p q).flatMap Mt.cells), (Stab.ext _).and ((Stab.blk _ _).and (fun _ _ e h => own_stab3 e h)), fun _ h => h.2.1, ⟨hx1.1.own3 hx1.2.2 hg, hx1.2.1.own_far hnb hg, hown⟩, ?_⟩
      clear hx hx1 hown hg hbk wx wy
      refine wpX_one 16 (by kernel_rfl) rfl rfl (fun wx hx K hK => ?_)
      go_simp
      refine hK _ _ ⟨fun wz => Ext w2 wz ∧ Blk wz gc (Mt.obj ⟨(ca : Int), (cb : Int), 1⟩) ∧ wz.ownsRow w2.heap.size 32 3 v5 (P.length + D.length) (P.flatMap Mt.cells ++ (shV D p q).flatMap Mt.cells), (Stab.ext _).and ((Stab.blk _ _).and (fun _ _ e h => own_stab3 e h)), fun _ h => h.2.1, hx, ?_⟩
      clear hK K hx wx
      refine wpX_done (by kernel_rfl) (fun w5 hx => ?_) _
      have HX := Lib.hid hx; clear hx hS hSs b1 b2
      have HNE := Lib.hid hne5; clear hne5 hnb
      obtain ⟨d0, d1, d2⟩ := HX.out.2.1.cells3
      have hgl := HX.out.2.1.lt
      go_wp2_with (at_builtin; refine wpList_append_size2 rfl (.tmp 48) (.tmp 50) 25 rfl w2.heap.size 32 inf _ 3 24 underM' I1.out I2.out I3.out I4.out rfl (by decide) v5 (P.length + D.length) _ (some ⟨w5.heap.size, 0, none⟩) 1 1 (Mt.cells ⟨(ca : Int), (cb : Int), 1⟩) rfl (by simp [Act.eval]) rfl (by simp [Mt.cells, Value.oneCell']) (by simp only [maxLen]; omega) (by omega) (own_stab3 ((Ext.refl w5).alloc _) HX.out.2.2) (Cells.new w5 _ _ rfl) (by have := HX.out.1.size; simp; omega) ?_; intro v' w6 hown hg hbk; have hbm := (HX.out.2.1.ext ((Ext.refl w5).alloc _)).own_far HNE.out hg; clear d0 d1 d2; obtain ⟨d0, d1, d2⟩ := hbm.cells3; have HOWN := Lib.hid hown; have HGR := Lib.hid hg; have hgl6 := hbm.lt; clear hown hg hbk hbm)
      go_quiet (fail)
      go_wp2_with fail
      go_roundw
      case rel =>
        have hx : Ext w5 (w5.alloc (.cells (Mt.cells ⟨(ca : Int), (cb : Int), 1⟩).toArray 32)) := (Ext.refl w5).alloc _
        refine ⟨j + 1, ca + 1, cb + 1, P ++ shV D p q ++ [⟨(ca : Int), (cb : Int), 1⟩], by omega, by go_num, by go_num, by go_num, fun _ => by omega, by rw [← HP.out]; simp [List.append_assoc], HAS2.out, ?_, ((HX.out.1.trans hx).own3 (own_stab3 hx HX.out.2.2) HGR.out).drewN _⟩
        have h9 := own_stab3 ((Ext.refl w6).drewN nq) HOWN.out
        simp only [List.length_append, List.flatMap_append, shV, List.length_map, List.length_singleton] at h9 ⊢
        simpa using h9
      case measure => simp [intOf]; omega
end Go.Proofs.Ytmmhbnlafcmloaa

/- Contract of the reference: Diff. -/
import Derived.Test.YtkkjhkmfoeblaaaHiLaws
import Derived.Test.YtkkjhkmfoeblaaaHiBest
import Derived.Test.YtkkjhkmfoeblaaaHiMoved
import Derived.Test.YtkkjhkmfoeblaaaMyRefDiff
namespace Go.Proofs.Ytkkjhkmfoeblaaa
open Go.RowKit

theorem strs_front {w : World} {A : Option Addr} {n : Nat} {ss : List ByteArray} (h : Strs w A n ss) {k : Nat} (hk : k ≤ n) : Strs w A k (ss.take k) := by
  refine ⟨by rw [List.length_take, h.1]; omega, fun s hs => h.2.1 s (List.mem_of_mem_take hs), ?_⟩
  have := h.2.2.take k
  rwa [← List.map_take] at this
theorem strs_back {w : World} {A A' : Option Addr} {n c lo : Nat} {ss : List ByteArray} (h : Strs w A n ss) (hn : n ≤ c) (hi : lo ≤ n) (hA : (if c = lo then A else A.map (fun x => x.add lo)) = A') : Strs w A' (n - lo) (ss.drop lo) := by
  have := strs_cut (k := n - lo) h hn (by omega) hA
  rwa [List.take_of_length_le (by rw [List.length_drop, h.1]; omega)] at this

theorem Blk.own_lt {w w' : World} {g : Nat} {o : Obj} {base : Nat} {e : TypeId} {size n : Nat} {v : Value} {xs : List Value} (hb : Blk w g o) (h : w.ownsRow base e size v n xs) (hlt : g < base) (hg : w.grownBy w' v.ownBlock) : Blk w' g o :=
  (hg.block g hb.lt (fun e => by have := (h.lt g e.symm).1; omega)).trans hb

theorem moved_is (A : Option Addr) (n c : Nat) (ms : List Mt) (x y : Nat) (X Y : Int) (hX : X = x) (hY : Y = y) (w : World) (ha : Mts w A n ms) (hs : Small ms) (hn : n ≤ 1000) (hx : x ≤ 10000) (hy : y ≤ 10000) :
    Calls Try.prog 30 #[.slice A n c, .int .i64 X, .int .i64 Y] w fun e w' => ∃ v, e = .returned v ∧ w'.ownsRow w.heap.size 26 3 v n ((ms.map (fun m => m.by x y)).flatMap Mt.cells) ∧ Ext w w' := by
  subst hX; subst hY; exact moved_any A n c ms x y w ha hs hn hx hy

/-- What Diff promises. -/
def DiffR (f : Nat) (a b : Lns) (w : World) (e : Ending) (w' : World) : Prop :=
  ∃ v, e = .returned v ∧ w'.ownsRow w.heap.size 26 3 v (hdiffV f a b).length ((hdiffV f a b).flatMap Mt.cells) ∧ Ext w w'

set_option maxRecDepth 100000 in
set_option maxHeartbeats 8000000 in
theorem rhdiff_any : ∀ (f : Nat) (A B : Option Addr) (n c m d : Nat) (a b : Lns) (w : World), a.length < f → Strs w A n a → Strs w B m b → n ≤ 60 → m ≤ 60 → n ≤ c → m ≤ d →
    Calls Try.prog 16 #[.slice A n c, .slice B m d] w (DiffR f a b w)
  | 0, _, _, _, _, _, _, a, _, _, hf, _, _, _, _, _, _ => absurd hf (by omega)
  | f + 1, A, B, n, c, m, d, a, b, w, hf, ha, hb, hn, hm, hnc, hmd => by
    have IH := rhdiff_any f
    obtain rfl : a.length = n := ha.1
    obtain rfl : b.length = m := hb.1
    have HA := Lib.hid ha; have HB := Lib.hid hb; have HIH := Lib.hid IH; clear ha hb IH
    obtain ⟨inf, i1, i2, i3, i4⟩ := info_of infoM
    have I1 := Lib.hid i1; have I2 := Lib.hid i2; have I3 := Lib.hid i3; have I4 := Lib.hid i4; clear i1 i2 i3 i4
    go_enter Try.func16, Try.ntmps16
    go_wp2_with fail
    refine (rbest_any A B a.length c b.length d a b w HA.out HB.out (by omega) (by omega)).mono ?_
    rintro e w1 ⟨rfl, hE⟩
    have HE := Lib.hid hE; clear hE
    rw [bestR, Mt.val]
    by_cases h64 : (bestV a b).2 ≤ 64
    case neg =>
      have h64' := nd h64
      have hV : hdiffV (f + 1) a b = diffV a b (dist a b) := by rw [hdiffV, if_neg h64]
      have HV := Lib.hid hV; clear hV h64
      go_wp2_with fail
      refine (rdiff_any A B a.length c b.length d a b _ (HA.out.ext (HE.out.alloc _)) (HB.out.ext (HE.out.alloc _)) (by omega) (by omega)).mono ?_
      rintro e w2 ⟨v, N, rfl, ho, hwf, hE⟩
      have HO := Lib.hid ho; have HE2 := Lib.hid hE; clear ho hE hwf
      go_wp2_with fail
      go_ret
      refine ⟨_, rfl, ?_, (HE.out.alloc _).trans HE2.out⟩
      rw [HV.out]
      have hN : N = (diffV a b (dist a b)).length := by have := HO.out.1; rw [flat_len mt_cells_len] at this; omega
      rw [← hN]
      exact own_base HO.out (HE.out.alloc _).size
    have h64' := yd h64
    obtain ⟨i, k, l, ⟨h1, h2, h3, h4, h5, h6⟩, _⟩ := best_some (b := b) (by omega : a.length ≤ 64) h64
    obtain ⟨p1, p2, p3, p4⟩ := runN_spec (a := a) (b := b) (i := i) (k := k) (by omega) (by omega)
    rw [h3] at p1 p2
    have hV : hdiffV (f + 1) a b = hdiffV f (a.take i) (b.take k) ++ [⟨i, k, l⟩] ++ (hdiffV f (a.drop (i + l)) (b.drop (k + l))).map (fun m => m.by ((i + l : Nat) : Int) ((k + l : Nat) : Int)) := by
      rw [hdiffV, if_pos h64, h1]
      simp only [Int.toNat_natCast]
      rw [show ((i : Int) + l).toNat = i + l by omega, show ((k : Int) + l).toNat = k + l by omega, show (i : Int) + l = ((i + l : Nat) : Int) by omega, show (k : Int) + l = ((k + l : Nat) : Int) by omega]
    rw [h1]
    dsimp only
    have hl0 : 0 < l := by omega
    have HV := Lib.hid hV; clear hV h64 h1 h2 h3 h6 p3 p4
    go_wp2_with fail
    have hbx : Blk ((w1.alloc (Mt.obj ⟨i, k, l⟩)).drew) w1.heap.size (Mt.obj ⟨i, k, l⟩) := (Blk.new w1 _ rfl).drew
    have hic : (i : Int) ≤ c := by omega
    have hkd : (k : Int) ≤ d := by omega
    obtain ⟨T, hT⟩ : ∃ T, T = (fun wx => Ext w wx ∧ Blk wx w1.heap.size (Mt.obj ⟨i, k, l⟩)) := ⟨_, rfl⟩
    have hTs : Stab T := by rw [hT]; exact (Stab.ext _).and (Stab.blk _ _)
    refine wp_region_X (T := T) T (by kernel_rfl) (by rw [hT]; exact ⟨(HE.out.alloc _).drew, hbx⟩) (wpX_takes (by kernel_rfl) (fun _ d _ _ _ h => by cases d <;> exact h) hTs (fun _ h => h) (fuel := 4) [0,1,2,3,4,5,6,7,9] _ _ (by kernel_rfl) ?_)
    iterate 9
      refine wpTk_want rfl (Eq.refl true) ?_
      apply Exists.intro
      refine ⟨fun wx hx => ?_, ?_⟩
      · rw [hT] at hx
        obtain ⟨d0, d1, d2⟩ := hx.2.cells3
        clear hx
        go_simp
        with_reducible exact gives_ok _ _ _
      simp only [Act.put, List.setIfInBounds_toArray, List.set_cons_zero, List.set_cons_succ]
    refine wpTk_nil ?_
    obtain ⟨L1, hL1⟩ : ∃ L1, hdiffV f (a.take i) (b.take k) = L1 := ⟨_, rfl⟩
    have hl1 : L1.length ≤ 64 := by rw [← hL1]; have := hdiff_len (f := f) (a := a.take i) (b := b.take k) (by rw [List.length_take]; omega) (by rw [List.length_take]; omega); rw [List.length_take] at this; omega
    rw [hL1] at HV
    have HL1 := Lib.hid hL1; clear hL1
    refine wpX_two 8 10 (by kernel_rfl) rfl rfl rfl rfl ?_ ?_
    · intro wx hx K hK
      rw [hT] at hx
      go_simp
      refine (HIH.out A B i c k d (a.take i) (b.take k) wx (by rw [List.length_take]; omega) (strs_front (HA.out.ext hx.1) (by omega)) (strs_front (HB.out.ext hx.1) (by omega)) (by omega) (by omega) (by omega) (by omega)).mono ?_
      rintro e wy ⟨v1, rfl, ho, hE⟩
      rw [HL1.out] at ho
      refine hK _ _ ⟨fun wz => (Ext w wz ∧ Blk wz w1.heap.size (Mt.obj ⟨i, k, l⟩)) ∧ wz.ownsRow (w1.heap.size + 1) 26 3 v1 L1.length (L1.flatMap Mt.cells), ((Stab.ext _).and (Stab.blk _ _)).and (fun _ _ e h => own_stab3 e h), (fun _ h => by rw [hT]; exact h.1), ⟨⟨hx.1.trans hE, hx.2.ext hE⟩, own_base ho hx.2.lt⟩, ?_⟩
      clear hK K hx ho hE wx wy
      refine wpX_push 10 11 (by kernel_rfl) rfl rfl (by kernel_rfl) rfl rfl (.tmp 29) (.tmp 31) 31 rfl (w1.heap.size + 1) 26 inf _ 3 24 underM I1.out I2.out I3.out I4.out rfl (by decide) v1 L1.length (L1.flatMap Mt.cells) (Mt.cells ⟨i, k, l⟩)
        (fun wz => by go_simp; rfl) (fun g => by simp [Act.eval, Act.put]) (fun g => by simp [Act.eval, Act.put]) rfl (by simp [Mt.cells, Value.oneCell']) (by simp only [maxLen]; omega) (by omega) (((Stab.ext _).and (Stab.blk _ _)).and (fun _ _ e h => own_stab3 e h)) (fun _ h => by rw [hT]; exact h.1) (fun _ h => ⟨h.2, h.1.2.lt⟩) (fun g wx hX v2 wy hown hg => ?_)
      refine ⟨fun wz => (Ext w wz ∧ Blk wz w1.heap.size (Mt.obj ⟨i, k, l⟩)) ∧ wz.ownsRow (w1.heap.size + 1) 26 3 v2 (L1.length + 1) (L1.flatMap Mt.cells ++ Mt.cells ⟨i, k, l⟩), ((Stab.ext _).and (Stab.blk _ _)).and (fun _ _ e h => own_stab3 e h), (fun _ h => by rw [hT]; exact h.1), ⟨⟨hX.1.1.own3 (own_base hX.2 (by have := HE.out.size; omega)) hg, hX.1.2.own_lt hX.2 (by omega) hg⟩, hown⟩, ?_⟩
      clear hX
      simp only [Act.put, List.setIfInBounds_toArray, List.set_cons_zero, List.set_cons_succ]
      refine wpX_one 12 (by kernel_rfl) rfl rfl (fun wz hz K hK => ?_)
      go_simp
      refine hK _ _ ⟨fun wz => (Ext w wz ∧ Blk wz w1.heap.size (Mt.obj ⟨i, k, l⟩)) ∧ wz.ownsRow (w1.heap.size + 1) 26 3 v2 (L1.length + 1) (L1.flatMap Mt.cells ++ Mt.cells ⟨i, k, l⟩), ((Stab.ext _).and (Stab.blk _ _)).and (fun _ _ e h => own_stab3 e h), (fun _ h => by rw [hT]; exact h.1), hz, ?_⟩
      clear hK K hz wz
      refine wpX_done (by kernel_rfl) (fun wz hz => ?_) _
      have HZ := Lib.hid hz; clear hz hT hTs
      obtain ⟨d0, d1, d2⟩ := HZ.out.1.2.cells3
      go_wp2_with fail
      go_quiet (fail)
      go_wp2_with fail
      clear d0 d1 d2
      have hO2 := own_stab3 ((Ext.refl wz).drewN nq) HZ.out.2
      have hEz : Ext w (wz.drewN nq) := HZ.out.1.1.drewN _
      have hsz : w1.heap.size + 1 ≤ (wz.drewN nq).heap.size := by have := HZ.out.1.2.lt; have := ((Ext.refl wz).drewN nq).size; omega
      have e3 : ((i : Int) + l).toNat = i + l := by omega
      have e4 : ((k : Int) + l).toNat = k + l := by omega
      have e5 : 0 ≤ (i : Int) + l := by omega
      have e6 : 0 ≤ (k : Int) + l := by omega
      have hila : (i : Int) + l ≤ a.length := by omega
      have hklb : (k : Int) + l ≤ b.length := by omega
      obtain ⟨S, hS⟩ : ∃ S, S = (fun wz => (Ext w wz ∧ w1.heap.size + 1 ≤ wz.heap.size) ∧ wz.ownsRow (w1.heap.size + 1) 26 3 v2 (L1.length + 1) (L1.flatMap Mt.cells ++ Mt.cells ⟨i, k, l⟩)) := ⟨_, rfl⟩
      have hSs : Stab S := by rw [hS]; exact ((Stab.ext _).and (Stab.size _)).and (fun _ _ e h => own_stab3 e h)
      refine wp_region_X (T := fun wz => Ext w wz) S (by kernel_rfl) (by rw [hS]; exact ⟨⟨hEz.drew, hsz⟩, own_stab3 (Ext.refl _).drew hO2⟩) (wpX_takes (by kernel_rfl) (fun _ d _ _ _ h => by cases d <;> exact h) hSs (fun _ h => by rw [hS] at h; exact h.1.1) (fuel := 4) [0,1,2,3,4,5,6,8,9] _ _ (by kernel_rfl) ?_)
      iterate 9
        refine wpTk_want rfl (Eq.refl true) ?_
        apply Exists.intro
        refine ⟨fun wx hx => ?_, ?_⟩
        · clear hx
          go_simp
          with_reducible exact gives_ok _ _ _
        simp only [Act.put, List.setIfInBounds_toArray, List.set_cons_zero, List.set_cons_succ]
      refine wpTk_nil ?_
      obtain ⟨L2, hL2⟩ : ∃ L2, hdiffV f (a.drop (i + l)) (b.drop (k + l)) = L2 := ⟨_, rfl⟩
      have hok2 := hdiff_ok f (a.drop (i + l)) (b.drop (k + l)) (by rw [List.length_drop]; omega) (by rw [List.length_drop]; omega)
      rw [hL2] at HV hok2
      have hl2 := check_sizes _ _ _ hok2 (by simp)
      have hn2 : L2.length ≤ 64 := by have := hl2.1; rw [List.length_drop] at this; omega
      have hsm : Small L2 := fun m hm => by have := hl2.2 m hm; simp only [List.length_drop] at this; omega
      have hwf : ∀ m ∈ L2, m.wf := fun m hm => by have := hsm m hm; exact mt_wf_small (by omega) (by omega) (by omega)
      have hwf2 : ∀ m ∈ L2.map (fun m => m.by ((i + l : Nat) : Int) ((k + l : Nat) : Int)), m.wf := fun m hm => by
        obtain ⟨m', hm', rfl⟩ := List.mem_map.1 hm
        have := hsm m' hm'
        exact mt_wf_small (by omega) (by omega) (by omega)
      have HL2 := Lib.hid hL2; have HSM := Lib.hid hsm; have HWF := Lib.hid hwf; have HWF2 := Lib.hid hwf2; clear hL2 hok2 hl2 hsm hwf hwf2
      refine wpX_one 7 (by kernel_rfl) rfl rfl (fun wx hx K hK => ?_)
      rw [hS] at hx
      go_simp
      refine (HIH.out _ _ (a.length - (i + l)) (c - (i + l)) (b.length - (k + l)) (d - (k + l)) (a.drop (i + l)) (b.drop (k + l)) wx (by rw [List.length_drop]; omega) (strs_back (HA.out.ext hx.1.1) hnc (by omega) rfl) (strs_back (HB.out.ext hx.1.1) hmd (by omega) rfl) (by omega) (by omega) (by omega) (by omega)).mono ?_
      rintro e wy ⟨v3, rfl, ho, hE⟩
      rw [HL2.out] at ho
      obtain ⟨A3, c3, rfl, hc3, hM3⟩ := ownM_mts ho HWF.out
      refine hK _ _ ⟨fun wz => S wz ∧ Mts wz A3 L2.length L2, hSs.and (fun _ _ e h => h.ext e), (fun _ h => by have := h.1; rw [hS] at this; exact this.1.1), ⟨hSs _ _ hE (by rw [hS]; exact hx), hM3⟩, ?_⟩
      clear hK K hx ho hE hM3 wx wy
      refine wpX_one 10 (by kernel_rfl) rfl rfl (fun wx hx K hK => ?_)
      go_simp
      refine (moved_is A3 L2.length c3 L2 (i + l) (k + l) _ _ (by omega) (by omega) wx hx.2 HSM.out (by omega) (by omega) (by omega)).mono ?_
      rintro e wy ⟨v4, rfl, ho, hE⟩
      obtain ⟨A4, c4, rfl, hc4, hM4⟩ := ownM_mts ho HWF2.out
      refine hK _ _ ⟨fun wz => S wz ∧ Mts wz A4 L2.length (L2.map (fun m => m.by ((i + l : Nat) : Int) ((k + l : Nat) : Int))), hSs.and (fun _ _ e h => Mts.ext h e), (fun _ h => by have := h.1; rw [hS] at this; exact this.1.1), ⟨hSs _ _ hE hx.1, hM4⟩, ?_⟩
      clear hK K hx ho hE hM4 wx wy
      refine wpX_append_size 11 (by kernel_rfl) rfl rfl (.tmp 43) (.tmp 53) 31 rfl (w1.heap.size + 1) 26 inf _ 3 24 underM I1.out I2.out I3.out I4.out rfl (by decide) v2 (L1.length + 1) (L1.flatMap Mt.cells ++ Mt.cells ⟨i, k, l⟩) A4 L2.length c4 ((L2.map (fun m => m.by ((i + l : Nat) : Int) ((k + l : Nat) : Int))).flatMap Mt.cells) rfl rfl (by rw [flat_len mt_cells_len, List.length_map]) (one_mt _) (by simp only [maxLen]; omega) (by omega)
        (fun wx hx => by have h1 := hx.1; rw [hS] at h1; exact ⟨h1.2, hx.2.2.2, h1.1.2⟩) (fun wx hx v5 wy hown hg => ?_)
      refine ⟨fun wz => Ext w wz ∧ wz.ownsRow (w1.heap.size + 1) 26 3 v5 _ _, (Stab.ext _).and (fun _ _ e h => own_stab3 e h), fun _ h => h.1, ⟨?_, hown⟩, ?_⟩
      · have h1 := hx.1; rw [hS] at h1; exact h1.1.1.own3 (own_base h1.2 (by have := HE.out.size; omega)) hg
      clear hx hown hg wx wy
      refine wpX_one 12 (by kernel_rfl) rfl rfl (fun wx hx K hK => ?_)
      go_simp
      refine hK _ _ ⟨fun wz => Ext w wz ∧ wz.ownsRow (w1.heap.size + 1) 26 3 v5 _ _, (Stab.ext _).and (fun _ _ e h => own_stab3 e h), fun _ h => h.1, hx, ?_⟩
      clear hK K hx wx
      refine wpX_done (by kernel_rfl) (fun wx hx => ?_) _
      obtain ⟨hx1, hx2⟩ := hx
      have HX1 := Lib.hid hx1; have HX2 := Lib.hid hx2; clear hx1 hx2
      go_wp2_with fail
      all_goals
        go_ret
        refine ⟨_, rfl, ?_, HX1.out⟩
        rw [HV.out]
        have h5 := own_base HX2.out (base' := w.heap.size) (by have := HE.out.size; omega)
        simp only [List.length_append, List.length_map, List.length_singleton, List.flatMap_append]
        simpa using h5
    · intro wx hx K hK
      rw [hT] at hx
      go_simp
      refine hK _ _ ⟨fun wz => (Ext w wz ∧ Blk wz w1.heap.size (Mt.obj ⟨i, k, l⟩)) ∧ Blk wz wx.heap.size (Mt.obj ⟨i, k, l⟩), ((Stab.ext _).and (Stab.blk _ _)).and (Stab.blk _ _), (fun _ h => by rw [hT]; exact h.1), ⟨⟨hx.1.alloc _, hx.2.alloc _⟩, Blk.new wx _ rfl⟩, ?_⟩
      obtain ⟨g0, hg0⟩ : ∃ g0, g0 = wx.heap.size := ⟨_, rfl⟩
      rw [← hg0]
      clear hK K hx hg0 wx
      refine wpX_one 8 (by kernel_rfl) rfl rfl (fun wx hx K hK => ?_)
      go_simp
      refine (HIH.out A B i c k d (a.take i) (b.take k) wx (by rw [List.length_take]; omega) (strs_front (HA.out.ext hx.1.1) (by omega)) (strs_front (HB.out.ext hx.1.1) (by omega)) (by omega) (by omega) (by omega) (by omega)).mono ?_
      rintro e wy ⟨v1, rfl, ho, hE⟩
      rw [HL1.out] at ho
      refine hK _ _ ⟨fun wz => ((Ext w wz ∧ Blk wz w1.heap.size (Mt.obj ⟨i, k, l⟩)) ∧ Blk wz g0 (Mt.obj ⟨i, k, l⟩)) ∧ wz.ownsRow (w1.heap.size + 1) 26 3 v1 L1.length (L1.flatMap Mt.cells), (((Stab.ext _).and (Stab.blk _ _)).and (Stab.blk _ _)).and (fun _ _ e h => own_stab3 e h), (fun _ h => by rw [hT]; exact h.1.1), ⟨⟨⟨hx.1.1.trans hE, hx.1.2.ext hE⟩, hx.2.ext hE⟩, own_base ho hx.1.2.lt⟩, ?_⟩
      clear hK K hx ho hE wx wy
      refine wpX_append_size 11 (by kernel_rfl) rfl rfl (.tmp 29) (.tmp 31) 31 rfl (w1.heap.size + 1) 26 inf _ 3 24 underM I1.out I2.out I3.out I4.out rfl (by decide) v1 L1.length (L1.flatMap Mt.cells) (some ⟨g0, 0, none⟩) 1 1 (Mt.cells ⟨i, k, l⟩) rfl rfl rfl (by simp [Mt.cells, Value.oneCell']) (by simp only [maxLen]; omega) (by omega)
        (fun wx hx => ⟨hx.2, .inr ⟨_, 0, rfl, fun j u hu => by rw [hx.1.2.cell]; simpa [Mt.cells] using hu⟩, hx.1.1.2.lt⟩) (fun wx hX v2 wy hown hg => ?_)
      refine ⟨fun wz => (Ext w wz ∧ Blk wz w1.heap.size (Mt.obj ⟨i, k, l⟩)) ∧ wz.ownsRow (w1.heap.size + 1) 26 3 v2 (L1.length + 1) (L1.flatMap Mt.cells ++ Mt.cells ⟨i, k, l⟩), ((Stab.ext _).and (Stab.blk _ _)).and (fun _ _ e h => own_stab3 e h), (fun _ h => by rw [hT]; exact h.1), ⟨⟨hX.1.1.1.own3 (own_base hX.2 (by have := HE.out.size; omega)) hg, hX.1.1.2.own_lt hX.2 (by omega) hg⟩, hown⟩, ?_⟩
      clear hX
      simp only [Act.put, List.setIfInBounds_toArray, List.set_cons_zero, List.set_cons_succ]
      refine wpX_one 12 (by kernel_rfl) rfl rfl (fun wz hz K hK => ?_)
      go_simp
      refine hK _ _ ⟨fun wz => (Ext w wz ∧ Blk wz w1.heap.size (Mt.obj ⟨i, k, l⟩)) ∧ wz.ownsRow (w1.heap.size + 1) 26 3 v2 (L1.length + 1) (L1.flatMap Mt.cells ++ Mt.cells ⟨i, k, l⟩), ((Stab.ext _).and (Stab.blk _ _)).and (fun _ _ e h => own_stab3 e h), (fun _ h => by rw [hT]; exact h.1), hz, ?_⟩
      clear hK K hz wz
      refine wpX_done (by kernel_rfl) (fun wz hz => ?_) _
      have HZ := Lib.hid hz; clear hz hT hTs
      obtain ⟨d0, d1, d2⟩ := HZ.out.1.2.cells3
      go_wp2_with fail
      go_quiet (fail)
      go_wp2_with fail
      clear d0 d1 d2
      have hO2 := own_stab3 ((Ext.refl wz).drewN nq) HZ.out.2
      have hEz : Ext w (wz.drewN nq) := HZ.out.1.1.drewN _
      have hsz : w1.heap.size + 1 ≤ (wz.drewN nq).heap.size := by have := HZ.out.1.2.lt; have := ((Ext.refl wz).drewN nq).size; omega
      have e3 : ((i : Int) + l).toNat = i + l := by omega
      have e4 : ((k : Int) + l).toNat = k + l := by omega
      have e5 : 0 ≤ (i : Int) + l := by omega
      have e6 : 0 ≤ (k : Int) + l := by omega
      have hila : (i : Int) + l ≤ a.length := by omega
      have hklb : (k : Int) + l ≤ b.length := by omega
      obtain ⟨S, hS⟩ : ∃ S, S = (fun wz => (Ext w wz ∧ w1.heap.size + 1 ≤ wz.heap.size) ∧ wz.ownsRow (w1.heap.size + 1) 26 3 v2 (L1.length + 1) (L1.flatMap Mt.cells ++ Mt.cells ⟨i, k, l⟩)) := ⟨_, rfl⟩
      have hSs : Stab S := by rw [hS]; exact ((Stab.ext _).and (Stab.size _)).and (fun _ _ e h => own_stab3 e h)
      refine wp_region_X (T := fun wz => Ext w wz) S (by kernel_rfl) (by rw [hS]; exact ⟨⟨hEz.drew, hsz⟩, own_stab3 (Ext.refl _).drew hO2⟩) (wpX_takes (by kernel_rfl) (fun _ d _ _ _ h => by cases d <;> exact h) hSs (fun _ h => by rw [hS] at h; exact h.1.1) (fuel := 4) [0,1,2,3,4,5,6,8,9] _ _ (by kernel_rfl) ?_)
      iterate 9
        refine wpTk_want rfl (Eq.refl true) ?_
        apply Exists.intro
        refine ⟨fun wx hx => ?_, ?_⟩
        · clear hx
          go_simp
          with_reducible exact gives_ok _ _ _
        simp only [Act.put, List.setIfInBounds_toArray, List.set_cons_zero, List.set_cons_succ]
      refine wpTk_nil ?_
      obtain ⟨L2, hL2⟩ : ∃ L2, hdiffV f (a.drop (i + l)) (b.drop (k + l)) = L2 := ⟨_, rfl⟩
      have hok2 := hdiff_ok f (a.drop (i + l)) (b.drop (k + l)) (by rw [List.length_drop]; omega) (by rw [List.length_drop]; omega)
      rw [hL2] at HV hok2
      have hl2 := check_sizes _ _ _ hok2 (by simp)
      have hn2 : L2.length ≤ 64 := by have := hl2.1; rw [List.length_drop] at this; omega
      have hsm : Small L2 := fun m hm => by have := hl2.2 m hm; simp only [List.length_drop] at this; omega
      have hwf : ∀ m ∈ L2, m.wf := fun m hm => by have := hsm m hm; exact mt_wf_small (by omega) (by omega) (by omega)
      have hwf2 : ∀ m ∈ L2.map (fun m => m.by ((i + l : Nat) : Int) ((k + l : Nat) : Int)), m.wf := fun m hm => by
        obtain ⟨m', hm', rfl⟩ := List.mem_map.1 hm
        have := hsm m' hm'
        exact mt_wf_small (by omega) (by omega) (by omega)
      have HL2 := Lib.hid hL2; have HSM := Lib.hid hsm; have HWF := Lib.hid hwf; have HWF2 := Lib.hid hwf2; clear hL2 hok2 hl2 hsm hwf hwf2
      refine wpX_one 7 (by kernel_rfl) rfl rfl (fun wx hx K hK => ?_)
      rw [hS] at hx
      go_simp
      refine (HIH.out _ _ (a.length - (i + l)) (c - (i + l)) (b.length - (k + l)) (d - (k + l)) (a.drop (i + l)) (b.drop (k + l)) wx (by rw [List.length_drop]; omega) (strs_back (HA.out.ext hx.1.1) hnc (by omega) rfl) (strs_back (HB.out.ext hx.1.1) hmd (by omega) rfl) (by omega) (by omega) (by omega) (by omega)).mono ?_
      rintro e wy ⟨v3, rfl, ho, hE⟩
      rw [HL2.out] at ho
      obtain ⟨A3, c3, rfl, hc3, hM3⟩ := ownM_mts ho HWF.out
      refine hK _ _ ⟨fun wz => S wz ∧ Mts wz A3 L2.length L2, hSs.and (fun _ _ e h => h.ext e), (fun _ h => by have := h.1; rw [hS] at this; exact this.1.1), ⟨hSs _ _ hE (by rw [hS]; exact hx), hM3⟩, ?_⟩
      clear hK K hx ho hE hM3 wx wy
      refine wpX_one 10 (by kernel_rfl) rfl rfl (fun wx hx K hK => ?_)
      go_simp
      refine (moved_is A3 L2.length c3 L2 (i + l) (k + l) _ _ (by omega) (by omega) wx hx.2 HSM.out (by omega) (by omega) (by omega)).mono ?_
      rintro e wy ⟨v4, rfl, ho, hE⟩
      obtain ⟨A4, c4, rfl, hc4, hM4⟩ := ownM_mts ho HWF2.out
      refine hK _ _ ⟨fun wz => S wz ∧ Mts wz A4 L2.length (L2.map (fun m => m.by ((i + l : Nat) : Int) ((k + l : Nat) : Int))), hSs.and (fun _ _ e h => Mts.ext h e), (fun _ h => by have := h.1; rw [hS] at this; exact this.1.1), ⟨hSs _ _ hE hx.1, hM4⟩, ?_⟩
      clear hK K hx ho hE hM4 wx wy
      refine wpX_append_size 11 (by kernel_rfl) rfl rfl (.tmp 43) (.tmp 53) 31 rfl (w1.heap.size + 1) 26 inf _ 3 24 underM I1.out I2.out I3.out I4.out rfl (by decide) v2 (L1.length + 1) (L1.flatMap Mt.cells ++ Mt.cells ⟨i, k, l⟩) A4 L2.length c4 ((L2.map (fun m => m.by ((i + l : Nat) : Int) ((k + l : Nat) : Int))).flatMap Mt.cells) rfl rfl (by rw [flat_len mt_cells_len, List.length_map]) (one_mt _) (by simp only [maxLen]; omega) (by omega)
        (fun wx hx => by have h1 := hx.1; rw [hS] at h1; exact ⟨h1.2, hx.2.2.2, h1.1.2⟩) (fun wx hx v5 wy hown hg => ?_)
      refine ⟨fun wz => Ext w wz ∧ wz.ownsRow (w1.heap.size + 1) 26 3 v5 _ _, (Stab.ext _).and (fun _ _ e h => own_stab3 e h), fun _ h => h.1, ⟨?_, hown⟩, ?_⟩
      · have h1 := hx.1; rw [hS] at h1; exact h1.1.1.own3 (own_base h1.2 (by have := HE.out.size; omega)) hg
      clear hx hown hg wx wy
      refine wpX_one 12 (by kernel_rfl) rfl rfl (fun wx hx K hK => ?_)
      go_simp
      refine hK _ _ ⟨fun wz => Ext w wz ∧ wz.ownsRow (w1.heap.size + 1) 26 3 v5 _ _, (Stab.ext _).and (fun _ _ e h => own_stab3 e h), fun _ h => h.1, hx, ?_⟩
      clear hK K hx wx
      refine wpX_done (by kernel_rfl) (fun wx hx => ?_) _
      obtain ⟨hx1, hx2⟩ := hx
      have HX1 := Lib.hid hx1; have HX2 := Lib.hid hx2; clear hx1 hx2
      go_wp2_with fail
      all_goals
        go_ret
        refine ⟨_, rfl, ?_, HX1.out⟩
        rw [HV.out]
        have h5 := own_base HX2.out (base' := w.heap.size) (by have := HE.out.size; omega)
        simp only [List.length_append, List.length_map, List.length_singleton, List.flatMap_append]
        simpa using h5
end Go.Proofs.Ytkkjhkmfoeblaaa

/- UdHap UdInv: parts of the proof of TopDifferences, one text behind the other. No condition. -/
import Derived.Test.YtmmcjcaccicheaaGreatDoorT33
import Derived.Test.YtmmcjcaccicheaaGreatDoorT23
import Derived.Test.YtmmcjcaccicheaaGreatDoorT25
import Derived.Test.YtmmcjcaccicheaaGreatDoorT24
import Derived.Test.YtmmcjcaccicheaaGreatDoorT31
import Derived.Test.YtmmcjcaccicheaaGreatDoorT29
/- The contract of hunks.Apply for hunks that fit. -/
namespace Go.Proofs.YtmmcjcaccicheaaGreatDoor
open Go.RowKit

/-! ### The plain side -/
theorem hksG_len : ∀ (L : List Sg) (x : Nat), (hksG x L).length = L.length
  | [], _ => rfl
  | p :: r, x => by simp [hksG, hksG_len r]
theorem hksG_get : ∀ (L : List Sg) (x k : Nat) (p : Sg), L[k]? = some p → (hksG x L)[k]? = some ⟨x + (oldG (L.take k)).length + p.k.length, p.o, p.n⟩
  | q :: r, x, 0, p, h => by
    obtain rfl : q = p := by simpa using h
    simp [hksG, oldG]
  | q :: r, x, k + 1, p, h => by
    have := hksG_get r (x + q.k.length + q.o.length) k p (by simpa using h)
    simp only [hksG, List.getElem?_cons_succ, List.take_succ_cons, oldG, List.length_append] at this ⊢
    rw [this]
    simp only [Option.some.injEq, Hp.mk.injEq, and_true]
    omega
theorem oldG_next {L : List Sg} {k : Nat} {p : Sg} (h : L[k]? = some p) : oldG (L.take (k + 1)) = oldG (L.take k) ++ p.k ++ p.o := by
  rw [take_succ_of h, oldG_app]; simp [oldG]
theorem newG_next {L : List Sg} {k : Nat} {p : Sg} (h : L[k]? = some p) : newG (L.take (k + 1)) = newG (L.take k) ++ p.k ++ p.n := by
  rw [take_succ_of h, newG_app]; simp [newG]
theorem oldG_cut (L : List Sg) (k : Nat) : oldG L = oldG (L.take k) ++ oldG (L.drop k) := by rw [← oldG_app, List.take_append_drop]
theorem newG_cut (L : List Sg) (k : Nat) : newG L = newG (L.take k) ++ newG (L.drop k) := by rw [← newG_app, List.take_append_drop]
/-- What Check asks of the hunks as they lie in memory. -/
theorem chk_hks : ∀ (L : List Sg) (x : Nat) (e : Int) (hs : List Hk), okG L → hs.length = L.length → (∀ (k : Nat) (h : Hk) (y : Hp), hs[k]? = some h → (hksG x L)[k]? = some y → h.at_ = y.at_ ∧ h.ol = y.old.length ∧ h.nl = y.new.length) →
    (e < x ∨ e ≤ x ∧ ∀ z ∈ L, 0 < z.k.length) → x + (oldG L).length ≤ 1099511627776 → checkFrom e hs = 0
  | [], _, _, hs, _, hl, _, _, _ => by
    obtain rfl : hs = [] := List.eq_nil_of_length_eq_zero hl
    rfl
  | s :: r, x, e, [], _, hl, _, _, _ => by simp at hl
  | s :: r, x, e, h :: hs, hok, hl, hr, he, hx => by
    obtain ⟨h1, h2, h3⟩ := hr 0 h ⟨x + s.k.length, s.o, s.n⟩ rfl rfl
    obtain ⟨o1, o2, o3⟩ := hok
    simp only [oldG, List.length_append] at hx
    simp only at h1 h2 h3
    have hgt : e < h.at_ := by
      rcases he with he | ⟨he, hz⟩
      · omega
      · have := hz s (by simp); omega
    rw [checkFrom, if_neg (by omega), if_neg (by omega), if_neg (by omega)]
    exact chk_hks r (x + s.k.length + s.o.length) _ hs o3 (by simpa using hl) (fun k h y a b => hr (k + 1) h y (by simpa using a) (by simpa [hksG] using b)) (.inr ⟨by omega, o2⟩) (by omega)
theorem check_is {w : World} {B : Option Addr} {m d : Nat} {L : List Sg} (hb : Hps w B m (hksG 0 L)) (hok : okG L) (hx : (oldG L).length ≤ 1099511627776) (hm : m ≤ Reach) :
    Calls Tryz.prog 29 #[.slice B m d] w fun e w' => e = .returned (.int .i64 0) ∧ Ext w w' := by
  obtain ⟨hs, h1, h2, h3⟩ := hb
  have := hcheck_any B m d hs w h1 hm
  rw [chk_hks L 0 (-1) hs hok (by have := h1.1; rw [hksG_len] at h2; omega) (fun k h y a b => by
    have r := h3 k h y a b
    exact ⟨r.at_, by have := r.old.1; omega, by have := r.new.1; omega⟩) (.inl (by omega)) (by omega)] at this
  exact this

/-! ### The walk -/
set_option maxRecDepth 100000 in
set_option maxHeartbeats 16000000 in
theorem happly_any (A B : Option Addr) (n c m d : Nat) (L : List Sg) (t : Lns) (w : World) (ha : Strs w A n (oldG L ++ t)) (hb : Hps w B m (hksG 0 L)) (hn : n ≤ 1000) (hnc : n ≤ c) (_hc0 : c ≤ maxLen) (hm : m ≤ 1000)
    (hok : okG L) (hnew : (newG L).length ≤ 1000) (hsz : ∀ s ∈ newG L, s.size ≤ Reach) :
    Calls Tryz.prog 33 #[.slice A n c, .slice B m d] w fun r w' => Ext w w' ∧ ∃ v, r = .returned (.tuple #[v, .int .i64 0]) ∧ w'.ownsRow w.heap.size 9 1 v (newG L ++ t).length ((newG L ++ t).map Value.string) := by
  have hlen := hb.len
  rw [hksG_len] at hlen
  have halen := ha.len
  rw [List.length_append] at halen
  have hchk := check_is (d := d) hb hok (by omega) (by unfold Reach; omega)
  obtain ⟨snf, j1, j2, j3, j4⟩ := info_of infoS
  have J1 := Lib.hid j1; have J2 := Lib.hid j2; have J3 := Lib.hid j3; have J4 := Lib.hid j4
  have HA := Lib.hid ha; have HB := Lib.hid hb; have HN := Lib.hid hlen; have HNW := Lib.hid hnew; have HAL := Lib.hid halen; have HSZ := Lib.hid hsz
  clear ha hb hlen hok hnew hsz halen j1 j2 j3 j4
  go_enter Tryz.func33, Tryz.ntmps33
  go_wp2_with fail
  refine hchk.mono ?_
  rintro e w1 ⟨rfl, hE1⟩
  have HE1 := Lib.hid hE1; clear hE1 hchk
  go_wp2_with fail
  go_loopw [7, 8, 18] (fun v at_ i wr => ∃ k : Nat, k ≤ m ∧ i = .int .i64 k ∧ at_ = .int .i64 (oldG (L.take k)).length ∧ Ext w wr ∧ wr.ownsRow w.heap.size 9 1 v (newG (L.take k)).length ((newG (L.take k)).map Value.string)) (fun _ _ i _ => m - (intOf i).toNat)
  case atStart => exact ⟨0, by omega, rfl, rfl, HE1.out, World.ownsRow_nil _ _ _ _⟩
  case round =>
    obtain ⟨k, hk, rfl, rfl, hEw, ho⟩ := hrel
    have HEW := Lib.hid hEw; have HO0 := Lib.hid ho; clear hEw ho
    have hol : (oldG (L.take k)).length ≤ n := by have := HAL.out; rw [oldG_cut L k, List.length_append] at this; omega
    by_cases hlt : k < m
    · obtain ⟨p, hp⟩ : ∃ p, L[k]? = some p := ⟨_, List.getElem?_eq_getElem (by rw [HN.out]; exact hlt)⟩
      have hbk := hksG_get L 0 k p hp
      obtain ⟨b, off, mm, x, rfl, hb1, hx, hr, c0, c1, c2⟩ := HB.out.get hlt
      rw [hbk] at hx
      obtain rfl := Option.some.inj hx
      obtain ⟨at_, oa, ol, oc, na, nl, nc⟩ := mm
      obtain ⟨g1, o1, n1⟩ := p
      have hold := oldG_next hp
      have hnewn := newG_next hp
      have hc1 := oldG_cut L (k + 1)
      have hc2 := newG_cut L (k + 1)
      rw [hold] at hc1
      rw [hnewn] at hc2
      have hnl := HNW.out
      rw [hc2] at hnl
      simp only [List.length_append] at hnl
      have hol2 := HAL.out
      rw [hc1] at hol2
      simp only [List.length_append] at hol2
      have hgap : ((oldG L ++ t).drop (oldG (L.take k)).length).take g1.length = g1 := by
        rw [hc1]
        simp [List.append_assoc]
      have hbod : ((oldG L ++ t).drop ((oldG (L.take k)).length + g1.length)).take o1.length = o1 := by
        rw [hc1]
        simp [List.append_assoc]
      have hoa : at_ = ((oldG (L.take k)).length + g1.length : Nat) := by have := hr.at_; simpa using this
      have hO : ol = o1.length := by have := hr.old.1; simp at this; exact this.symm
      have hN : nl = n1.length := by have := hr.new.1; simp at this; exact this.symm
      have hso : Strs w oa ol o1 := hr.old
      have hsn : Strs w na nl n1 := hr.new
      have hEw := HEW.out
      dsimp only at c0 c1 c2
      obtain ⟨O, hO'⟩ : ∃ O, ol = O := ⟨_, rfl⟩
      obtain ⟨N, hN'⟩ : ∃ N, nl = N := ⟨_, rfl⟩
      obtain ⟨P, hP⟩ : ∃ P, (oldG (L.take k)).length = P := ⟨_, rfl⟩
      obtain ⟨G, hG⟩ : ∃ G, g1.length = G := ⟨_, rfl⟩
      obtain ⟨e, he⟩ : ∃ e, P + G = e := ⟨_, rfl⟩
      have hPe : P ≤ e := by omega
      have heG : e - P = G := by omega
      rw [hoa, hP, hG, he] at c0
      rw [hO'] at c1 hso
      rw [hN'] at c2 hsn
      rw [hP, hG] at hgap
      rw [hP, hG, he, ← hO, hO'] at hbod
      rw [hP, hG, ← hO, hO', he] at hol2
      rw [hG, ← hN, hN'] at hnl
      replace c0 := hEw.cell c0; replace c1 := hEw.cell c1; replace c2 := hEw.cell c2
      have HSO := Lib.hid (hso.ext hEw); have HSN := Lib.hid (hsn.ext hEw); have HSNW := Lib.hid hsn; have HAR := Lib.hid (HA.out.ext hEw)
      have HNX := Lib.hid hnewn; have HOX := Lib.hid hold; have HGAP := Lib.hid hgap; have HBOD := Lib.hid hbod; have HNL := Lib.hid hnl; have HP := Lib.hid hP; have HG := Lib.hid hG; have HO := Lib.hid (hO'.symm.trans hO); have HN2 := Lib.hid (hN'.symm.trans hN)
      rw [hP]
      have hen := end_any ⟨(e : Int), oa, O, oc, na, N, nc⟩
      have K1 := Lib.hid (⟨Blk.new wr (.cells #[.int .i64 e, .slice oa O oc, .slice na N nc] 69) rfl, (Ext.refl wr).alloc (.cells #[.int .i64 e, .slice oa O oc, .slice na N nc] 69)⟩ : Blk _ _ _ ∧ Ext _ _)
      obtain ⟨z, hz'⟩ : ∃ z, wr.heap.size = z := ⟨_, rfl⟩
      have hPG : e + O ≤ n := by omega
      have hN1 : N ≤ 1000 := by omega
      have hec : e ≤ c := by omega
      have hen := fun w => end_any ⟨(e : Int), oa, O, oc, na, N, nc⟩ w (by show (0 : Int) ≤ e; omega) (by show (e : Int) ≤ _; omega) ⟨by show O ≤ Reach; unfold Reach; omega, by show N ≤ Reach; unfold Reach; omega⟩
      have hpn : (newG (L.take k)).length ≤ 1000 := by omega
      have HEG := Lib.hid heG; have HHE := Lib.hid he; have HEN := Lib.hid hen; have HNL2 := Lib.hid hnl
      have hwo : IntKind.i64.wrap ((e : Int) + O) = (e : Int) + O := IntWalk.i64_in _ (by omega)
      clear hold hnewn hc1 hc2 hgap hbod hr hso hsn hoa hp hbk hx hEw hnl hP hG hO hN hO' hN' HB hen heG he hol2
      rw [hz'] at K1
      go_wp2_with fail
      refine (HEN.out _).mono ?_
      rintro r w5 ⟨rfl, hE5⟩
      have KN := Lib.hid (show Know w [(z, (.cells #[.int .i64 e, .slice oa O oc, .slice na N nc] 69))] w5 from ⟨HEW.out.trans (K1.out.2.trans hE5), fun p hp => by obtain rfl := List.mem_singleton.1 hp; exact K1.out.1.ext hE5⟩)
      have KR := Lib.hid (K1.out.2.trans hE5)
      clear hE5
      have hs1 : (e : Int) ≤ (e : Int) + O := by omega
      have hs2 : (e : Int) + O ≤ (c : Int) := by omega
      have hs3 : ((e : Int) + O).toNat - e = O := by omega
      have hs4 : ¬ ((n : Int) < (e : Int) + O) := by omega
      obtain ⟨A', hA'⟩ : ∃ A', (if c = e then A else A.map (fun x => x.add e)) = A' := ⟨_, rfl⟩
      have HA' := Lib.hid hA'; clear hA'
      clear c0 c1 c2
      go_wp2_with fail
      refine wp_region_text (fun wx => Know w [(z, (.cells #[.int .i64 e, .slice oa O oc, .slice na N nc] 69))] wx ∧ Ext wr wx) [0,1,2,3,4,5,6,7,8,9] (by kernel_rfl) ((Know.stab _ _).and (Stab.ext _)) ⟨KN.out.drew, KR.out.drew⟩ (by kernel_rfl) (fun _ d _ _ _ h => by cases d <;> exact h) ?_
      iterate 5
        refine wpTk_want rfl (Eq.refl true) ?_
        apply Exists.intro
        refine ⟨fun wx hx => ?_, ?_⟩
        · obtain ⟨d00, d01, d02⟩ := (hx.1.at 0 rfl).cells3
          clear hx
          go_simp
          first
            | with_reducible exact gives_ok _ _ _
            | (have r := HEN.out wx; with_reducible exact gives_call _ _ _ r)
        simp only [Act.put, List.setIfInBounds_toArray, List.set_cons_zero, List.set_cons_succ]
      refine wpTk_want rfl (Eq.refl true) ⟨.slice A' O (c - e), fun wx hx => ?_, ?_⟩
      · clear hx
        go_simp
        rw [HA'.out]
        with_reducible exact gives_ok _ _ _
      simp only [Act.put, List.setIfInBounds_toArray, List.set_cons_zero, List.set_cons_succ]
      iterate 4
        refine wpTk_want rfl (Eq.refl true) ?_
        apply Exists.intro
        refine ⟨fun wx hx => ?_, ?_⟩
        · obtain ⟨d00, d01, d02⟩ := (hx.1.at 0 rfl).cells3
          have HXX := Lib.hid hx; clear hx
          go_simp
          first
            | with_reducible exact gives_ok _ _ _
            | (have r := equal_is (c := c - e) (d := oc) wx (strs_cut (HAR.out.ext HXX.out.2) hnc hPG HA'.out) (HSO.out.ext HXX.out.2) (by unfold Reach; omega) (by unfold Reach; omega) (decide_eq_true HBOD.out); with_reducible exact gives_call _ _ _ r)
        simp only [Act.put, List.setIfInBounds_toArray, List.set_cons_zero, List.set_cons_succ]
      refine wpTk_nil ?_
      intro w3 hK
      have K3 := Lib.hid hK.1; have KR3 := Lib.hid hK.2; clear hK
      go_wp2_with fail
      have hp1 : (e : Int) ≤ (c : Int) := by omega
      have hp2 : (P : Int) ≤ e := by omega
      obtain ⟨A1, hA1⟩ : ∃ A', (if c = P then A else A.map (fun x => x.add P)) = A' := ⟨_, rfl⟩
      refine wp_region_X (T := Know w [(z, (.cells #[.int .i64 e, .slice oa O oc, .slice na N nc] 69))]) (fun wx => Know w [(z, (.cells #[.int .i64 e, .slice oa O oc, .slice na N nc] 69))] wx ∧ wx.ownsRow w.heap.size 9 1 u7 (newG (L.take k)).length ((newG (L.take k)).map Value.string) ∧ Strs wx A1 (e - P) g1 ∧ Strs wx na N n1) (by kernel_rfl) ⟨K3.out.drew, own_stab3 KR3.out.drew HO0.out, ?_, HSN.out.ext KR3.out.drew⟩ (wpX_takes (by kernel_rfl) (fun _ d _ _ _ h => by cases d <;> exact h) (fun _ _ e h => ⟨h.1.ext e, own_stab3 e h.2.1, h.2.2.1.ext e, h.2.2.2.ext e⟩) (fun _ h => h.1) (fuel := 3) [0,1,2,3,4,5,7,8] _ _ (by kernel_rfl) ?_)
      · have h9 := strs_cut (HAR.out.ext KR3.out.drew) hnc (lo := P) (k := e - P) (by omega) hA1
        rw [HEG.out] at h9 ⊢
        rw [HGAP.out] at h9; exact h9
      iterate 8
        refine wpTk_want rfl (Eq.refl true) ?_
        apply Exists.intro
        refine ⟨fun wx hx => ?_, ?_⟩
        · obtain ⟨d00, d01, d02⟩ := (hx.at 0 rfl).cells3
          clear hx
          go_simp
          with_reducible exact gives_ok _ _ _
        simp only [Act.put, List.setIfInBounds_toArray, List.set_cons_zero, List.set_cons_succ]
      refine wpTk_nil ?_
      have HEG1 := Lib.hid (show g1.length = e - P by have := HEG.out; have := HG.out; omega)
      have hle1 : (newG (L.take k)).length + (e - P) + N ≤ 1000 := by have := HEG.out; have := HNL2.out; omega
      refine wpX_one 6 (by kernel_rfl) rfl rfl (fun wz hz K hK => ?_)
      refine wp_append (.tmp 37) (.tmp 42) 22 rfl w.heap.size 9 snf _ 1 16 underSs J1.out J2.out J3.out J4.out rfl (by decide) u7 (newG (L.take k)).length ((newG (L.take k)).map Value.string) A1 (e - P) (c - P) (g1.map Value.string) rfl rfl (by rw [List.length_map, HEG1.out]; omega) (one_str _) (by simp only [maxLen]; omega) (by omega) hz.2.1 hz.2.2.1.2.2 hz.1.1.size (fun v1 wy hown hgr hbl => ?_)
      have kE := hz.1.1.own3 hz.2.1 hgr
      have kB := (hz.1.at 0 rfl).own hz.2.1 (by decide) hgr
      simp only [Act.put, List.setIfInBounds_toArray, List.set_cons_zero, List.set_cons_succ]
      have hn9 : Strs wy na N n1 := HSNW.out.ext kE
      refine hK _ _ ⟨(fun wx => Know w [(z, (.cells #[.int .i64 e, .slice oa O oc, .slice na N nc] 69))] wx ∧ wx.ownsRow w.heap.size 9 1 v1 ((newG (L.take k)).length + (e - P)) ((newG (L.take k)).map Value.string ++ g1.map Value.string) ∧ Strs wx na N n1), (fun _ _ e h => ⟨h.1.ext e, own_stab3 e h.2.1, h.2.2.ext e⟩), fun _ h => h.1, ⟨⟨kE, fun p hp => by obtain rfl := List.mem_singleton.1 hp; exact kB⟩, hown, hn9⟩, ?_⟩
      clear kE kB hown hgr hbl hn9 hK K hz wz wy
      refine wpX_one 9 (by kernel_rfl) rfl rfl (fun wz hz K hK => ?_)
      refine wp_append (.tmp 43) (.tmp 45) 22 rfl w.heap.size 9 snf _ 1 16 underSs J1.out J2.out J3.out J4.out rfl (by decide) v1 ((newG (L.take k)).length + (e - P)) ((newG (L.take k)).map Value.string ++ g1.map Value.string) na N nc (n1.map Value.string) rfl rfl (by rw [List.length_map, HN2.out]; omega) (one_str _) (by simp only [maxLen]; omega) (by omega) hz.2.1 hz.2.2.2.2 hz.1.1.size (fun v2 wy hown hgr hbl => ?_)
      have kE := hz.1.1.own3 hz.2.1 hgr
      have kB := (hz.1.at 0 rfl).own hz.2.1 (by decide) hgr
      simp only [Act.put, List.setIfInBounds_toArray, List.set_cons_zero, List.set_cons_succ]
      refine hK _ _ ⟨(fun wx => Know w [(z, (.cells #[.int .i64 e, .slice oa O oc, .slice na N nc] 69))] wx ∧ wx.ownsRow w.heap.size 9 1 v2 ((newG (L.take k)).length + (e - P) + N) ((newG (L.take k)).map Value.string ++ g1.map Value.string ++ n1.map Value.string)), (fun _ _ e h => ⟨h.1.ext e, own_stab3 e h.2⟩), fun _ h => h.1, ⟨⟨kE, fun p hp => by obtain rfl := List.mem_singleton.1 hp; exact kB⟩, hown⟩, ?_⟩
      clear kE kB hown hgr hbl hK K hz wz wy
      refine wpX_one 10 (by kernel_rfl) rfl rfl (fun wz hz K hK => ?_)
      have hz' := Lib.hid hz
      clear hz
      go_simp
      refine hK _ _ ⟨(fun wx => Know w [(z, (.cells #[.int .i64 e, .slice oa O oc, .slice na N nc] 69))] wx ∧ wx.ownsRow w.heap.size 9 1 v2 ((newG (L.take k)).length + (e - P) + N) ((newG (L.take k)).map Value.string ++ g1.map Value.string ++ n1.map Value.string)), (fun _ _ e h => ⟨h.1.ext e, own_stab3 e h.2⟩), fun _ h => h.1, hz'.out, ?_⟩
      clear hK K hz' wz
      refine wpX_done (by kernel_rfl) (fun wz hz => ?_) _
      obtain ⟨d00, d01, d02⟩ := (hz.1.at 0 rfl).cells3
      have HZ := Lib.hid hz; clear hz
      go_wp2_with fail
      refine (HEN.out _).mono ?_
      rintro r w4 ⟨rfl, hE4⟩
      have HE4 := Lib.hid hE4; clear hE4 d00 d01 d02
      go_wp2_with fail
      go_roundw
      case rel =>
        refine ⟨k + 1, by omega, by go_num, ?_, HZ.out.1.1.trans HE4.out, ?_⟩
        · rw [HOX.out]
          simp only [List.length_append]
          have h1 := HP.out; have h2 := HG.out; have h3 := HO.out; have h4 := HHE.out
          exact congrArg (Value.int .i64) (by omega)
        · have h1 := own_stab3 HE4.out HZ.out.2
          rw [HNX.out]
          simp only [List.length_append, List.map_append]
          rw [HEG1.out, ← HN2.out]
          exact h1
      case measure => simp [intOf]; omega
    · have hkm : k = m := by omega
      have htt : L.take k = L := List.take_of_length_le (by rw [HN.out]; omega)
      have hEw := HEW.out
      have ho := HO0.out
      rw [htt] at ho hol ⊢
      have hol2 : (oldG L).length + t.length = n := HAL.out
      obtain ⟨P, hP⟩ : ∃ P, (oldG L).length = P := ⟨_, rfl⟩
      have htl : n - P = t.length := by omega
      have hdr : ((oldG L ++ t).drop P).take (n - P) = t := by
        rw [← hP, List.drop_left, List.take_of_length_le]; omega
      obtain ⟨A1, hA1⟩ : ∃ A', (if c = P then A else A.map (fun x => x.add P)) = A' := ⟨_, rfl⟩
      have hs1 := strs_cut (HA.out.ext hEw) hnc (lo := P) (k := n - P) (by omega) hA1
      rw [hdr] at hs1
      have hnw := HNW.out
      have hkw := hEw.size
      have HE := Lib.hid hEw; have HO := Lib.hid ho; have HS1 := Lib.hid hs1; have HTL := Lib.hid htl
      rw [hP] at hol ⊢
      clear hEw ho hs1 HO0 HEW hdr htl htt
      go_wp2_with (at_builtin; refine wpList_append_size2 rfl (.tmp 50) (.tmp 53) 22 rfl w.heap.size 9 snf _ 1 16 underSs J1.out J2.out J3.out J4.out rfl (by decide) _ (newG L).length ((newG L).map Value.string) A1 (n - P) (c - P) (t.map Value.string) rfl rfl (by rw [HTL.out]; simp) (one_str _) (by simp only [maxLen]; omega) (by omega) HO.out HS1.out.2.2 hkw ?_; intro v2 w2 hown2 hg2 hb2)
      have HE3 := Lib.hid (HE.out.own3 HO.out hg2)
      have HO3 := Lib.hid hown2
      clear hown2 hg2 hb2
      go_wp2_with fail
      refine bodyPost_ret (v := .tuple #[v2, .int .i64 0]) (by simp [results, Tryz.results33, go_sem]) rfl ⟨HE3.out, _, rfl, ?_⟩
      have h := HO3.out
      rw [HTL.out] at h
      simpa using h
end Go.Proofs.YtmmcjcaccicheaaGreatDoor
/- The contract of hunks.Invert for hunks that fit. -/
namespace Go.Proofs.YtmmcjcaccicheaaGreatDoor
open Go.RowKit

theorem swG_get {L : List Sg} {k : Nat} {q : Sg} (h : L[k]? = some q) : (swG L)[k]? = some ⟨q.k, q.n, q.o⟩ := by
  unfold swG; rw [List.getElem?_map, h]; rfl
theorem swG_take (L : List Sg) (k : Nat) : (swG L).take k = swG (L.take k) := by unfold swG; rw [List.map_take]
theorem swG_len (L : List Sg) : (swG L).length = L.length := by simp [swG]
set_option maxRecDepth 100000 in
set_option maxHeartbeats 16000000 in
theorem invert_any (A : Option Addr) (n c : Nat) (L : List Sg) (w : World) (hb : Hps w A n (hksG 0 L)) (hok : okG L) (hn : n ≤ 1000) (ho : (oldG L).length ≤ 1000) (hw : (newG L).length ≤ 1000) :
    Calls Tryz.prog 11 #[.slice A n c] w fun r w' => Ext w w' ∧ ∃ v va, r = .returned (.tuple #[v, .int .i64 0]) ∧ HMem w.heap.size v va va (hksG 0 (swG L)) (hls (hksG 0 (swG L))) w' := by
  have hlen := hb.len
  rw [hksG_len] at hlen
  have hchk := check_is (d := c) hb hok (by omega) (by unfold Reach; omega)
  obtain ⟨hnf, j1, j2, j3, j4⟩ := info_of infoHk
  have J1 := Lib.hid j1; have J2 := Lib.hid j2; have J3 := Lib.hid j3; have J4 := Lib.hid j4
  have HB := Lib.hid hb; have HN := Lib.hid hlen; have HOL := Lib.hid ho; have HNW := Lib.hid hw
  clear hb hlen hok ho hw j1 j2 j3 j4
  go_enter Tryz.func11, Tryz.ntmps11
  go_wp2_with fail
  refine hchk.mono ?_
  rintro e w1 ⟨rfl, hE1⟩
  have HE1 := Lib.hid hE1; clear hE1 hchk
  go_wp2_with fail
  go_loopw [5, 6, 16] (fun v sh i wr => ∃ k : Nat, k ≤ n ∧ i = .int .i64 k ∧ sh = .int .i64 (((newG (L.take k)).length : Int) - (oldG (L.take k)).length) ∧ Ext w wr ∧ ∃ va, HMem w.heap.size v va va ((hksG 0 (swG L)).take k) (hls ((hksG 0 (swG L)).take k)) wr) (fun _ _ i _ => n - (intOf i).toNat)
  case atStart => exact ⟨0, by omega, rfl, rfl, HE1.out, [], HMem.nil _ _⟩
  case round =>
    obtain ⟨k, hk, rfl, rfl, hEw, va, hM⟩ := hrel
    have HEW := Lib.hid hEw; have HM := Lib.hid hM; clear hEw hM
    by_cases hlt : k < n
    · obtain ⟨q, hq⟩ : ∃ p, L[k]? = some p := ⟨_, List.getElem?_eq_getElem (by rw [HN.out]; exact hlt)⟩
      have hbk := hksG_get L 0 k q hq
      have hbi := hksG_get (swG L) 0 k _ (swG_get hq)
      rw [swG_take, oldG_sw] at hbi
      obtain ⟨b, off, mm, x, rfl, hb1, hx, hr, c0, c1, c2⟩ := HB.out.get hlt
      rw [hbk] at hx
      obtain rfl := Option.some.inj hx
      obtain ⟨at_, oa, ol, oc, na, nl, nc⟩ := mm
      have o1 := congrArg List.length (oldG_next hq); have o2 := congrArg List.length (newG_next hq)
      have o3 := congrArg List.length (oldG_cut L (k + 1)); have o4 := congrArg List.length (newG_cut L (k + 1))
      have hol := HOL.out; have hnw := HNW.out
      simp only [List.length_append] at o1 o2 o3 o4
      have hso : Strs w oa ol q.o := hr.old
      have hsn : Strs w na nl q.n := hr.new
      have hoa : at_ = ((oldG (L.take k)).length + q.k.length : Nat) := by have := hr.at_; simpa using this
      have hO : ol = q.o.length := by have := hso.1; exact this.symm
      have hN : nl = q.n.length := by have := hsn.1; exact this.symm
      dsimp only at c0 c1 c2
      obtain ⟨H, hH⟩ : ∃ H, (oldG (L.take k)).length + q.k.length = H := ⟨_, rfl⟩
      obtain ⟨H2, hH2⟩ : ∃ H2, (newG (L.take k)).length + q.k.length = H2 := ⟨_, rfl⟩
      obtain ⟨O, hO'⟩ : ∃ O, ol = O := ⟨_, rfl⟩
      obtain ⟨N, hN'⟩ : ∃ N, nl = N := ⟨_, rfl⟩
      obtain ⟨sh, hsh⟩ : ∃ sh, ((newG (L.take k)).length : Int) - (oldG (L.take k)).length = sh := ⟨_, rfl⟩
      rw [hsh]
      rw [hoa, hH] at c0
      rw [hO'] at c1 hso hO
      rw [hN'] at c2 hsn hN
      replace c0 := HEW.out.cell c0; replace c1 := HEW.out.cell c1; replace c2 := HEW.out.cell c2
      have hO1 : O ≤ 1000 := by omega
      have hN1 : N ≤ 1000 := by omega
      have hsb : -1000 ≤ sh ∧ sh ≤ 1000 := by omega
      have hHb : H ≤ 1000 ∧ H2 ≤ 1000 := by omega
      have hw1 : IntKind.i64.wrap ((H : Int) + sh) = (H2 : Int) := by rw [IntWalk.i64_in _ (by omega)]; omega
      have hw0 : ¬ ((1099511627776 : Int) < (H2 : Int)) := by omega
      have hw2 : IntKind.i64.wrap ((N : Int) - O) = (N : Int) - O := IntWalk.i64_in _ (by omega)
      have hw3 : IntKind.i64.wrap (sh + ((N : Int) - O)) = sh + ((N : Int) - O) := IntWalk.i64_in _ (by omega)
      have hnx : ((newG (L.take (k + 1))).length : Int) - (oldG (L.take (k + 1))).length = sh + ((N : Int) - O) := by omega
      have htk : (hksG 0 (swG L)).take (k + 1) = (hksG 0 (swG L)).take k ++ [⟨H2, q.n, q.o⟩] := by
        rw [take_succ_of hbi]; simp only [Nat.zero_add, hH2]
      have hol9 : ((hksG 0 (swG L)).take k).length = k := by rw [List.length_take, hksG_len, swG_len, HN.out]; omega
      have HSO := Lib.hid hso; have HSN := Lib.hid hsn; have HO := Lib.hid hO; have HN2 := Lib.hid hN; have HNX := Lib.hid hnx; have HTK := Lib.hid htk; have HOL9 := Lib.hid hol9
      clear hq hbk hbi hx hr o1 o2 o3 o4 hol hnw hso hsn hoa hO hN hH hH2 hsh hnx htk hol9
      go_wp2_with fail
      obtain ⟨z, hz'⟩ : ∃ z, wr.heap.size = z := ⟨_, rfl⟩
      obtain ⟨wC, hwC⟩ : ∃ wC : World, wC = wr.alloc (.cells #[.int .i64 H, .slice oa O oc, .slice na N nc] 69) := ⟨_, rfl⟩
      have nC := Blk.new wr (.cells #[.int .i64 H, .slice oa O oc, .slice na N nc] 69) hz'.symm
      have xC := (Ext.refl wr).alloc (.cells #[.int .i64 H, .slice oa O oc, .slice na N nc] 69)
      rw [← hwC] at nC xC ⊢
      rw [hz']
      have NC := Lib.hid nC; have XC := Lib.hid xC; have HZZ := Lib.hid hz'
      have h0 : wC.cell? ⟨z, 0, none⟩ = some (.int .i64 H) := nC.cell 0
      have h1 : wC.cell? ⟨z, 1, none⟩ = some (.slice oa O oc) := nC.cell 1
      have h2 : wC.cell? ⟨z, 2, none⟩ = some (.slice na N nc) := nC.cell 2
      have hzv : ∀ (y : Value), y ∈ va → ∀ g, y.ownBlock = some g → g < wC.heap.size := fun y hy g hg => Nat.lt_of_lt_of_le (HM.out.sz y hy g hg) xC.size
      have HZV := Lib.hid hzv
      clear nC xC hwC hz' c0 c1 c2 hzv
      refine wp_region_Y 13 (fun wx => Ext wC wx) (fun wx => Ext wC wx) (by kernel_rfl) (Ext.refl wC).drew (wpY_takes (by kernel_rfl) (fun _ d _ _ _ h => by cases d <;> exact h) (Stab.ext _) (fun _ h => h) (fuel := 6) [0, 1, 2, 3, 4, 5, 6, 8, 9] _ _ (Waited.start _) (by kernel_rfl) (by kernel_rfl) (by kernel_rfl) ?_)
      iterate 9
        refine wpTk_want rfl (Eq.refl true) ?_
        apply Exists.intro
        refine ⟨fun wx hx => ?_, ?_⟩
        · replace h0 := Ext.cell hx h0; replace h1 := Ext.cell hx h1; replace h2 := Ext.cell hx h2
          clear hx
          go_simp
          with_reducible exact gives_ok _ _ _
        simp only [Act.put, List.setIfInBounds_toArray, List.set_cons_zero, List.set_cons_succ]
      refine wpTk_nil ?_
      clear h0 h1 h2
      refine wpY_one 7 (by kernel_rfl) rfl rfl (fun wz hz K hK => ?_)
      have hz' := Lib.hid hz
      clear hz
      go_simp
      refine (sclone_any na N nc wz (HSN.out.ext (HEW.out.trans (XC.out.trans hz'.out))) (by omega)).mono ?_
      rintro r w5 ⟨hE5, v5, rfl, ho5⟩
      obtain ⟨A1, c1, rfl⟩ := own_shp ho5
      have hlt5 : ∀ g, Value.ownBlock (.slice A1 N c1) = some g → g < w5.heap.size := fun g hg => by obtain ⟨_, c, hc⟩ := own_blk ho5 hg; exact hc.lt
      refine hK _ _ ⟨(fun wx => Ext wC wx ∧ wx.ownsRow wC.heap.size 9 1 (.slice A1 N c1) q.n.length (q.n.map Value.string) ∧ ∀ g, Value.ownBlock (.slice A1 N c1) = some g → g < wx.heap.size), (fun _ _ e h => ⟨h.1.trans e, own_stab3 e h.2.1, fun g hg => Nat.lt_of_lt_of_le (h.2.2 g hg) e.size⟩), .inr fun _ h => h.1, ⟨hz'.out.trans hE5, by have := own_base ho5 hz'.out.size; rwa [HN2.out] at this ⊢, hlt5⟩, ?_⟩
      clear hK K hz' hE5 ho5 hlt5 w5 wz
      refine wpY_one 10 (by kernel_rfl) rfl rfl (fun wz hz K hK => ?_)
      have hz' := Lib.hid hz
      clear hz
      go_simp
      refine (sclone_any oa O oc wz (HSO.out.ext (HEW.out.trans (XC.out.trans hz'.out.1))) (by omega)).mono ?_
      rintro r w5 ⟨hE5, v5, rfl, ho5⟩
      obtain ⟨A2, c2, rfl⟩ := own_shp ho5
      have h12 : ∀ g, Value.ownBlock (.slice A1 N c1) = some g → Value.ownBlock (.slice A2 O c2) ≠ some g := fun g hg hg2 => by have := hz'.out.2.2 g hg; have := (own_blk ho5 hg2).1; omega
      refine hK _ _ ⟨(fun wx => Ext wC wx ∧ wx.ownsRow wC.heap.size 9 1 (.slice A1 N c1) q.n.length (q.n.map Value.string) ∧ wx.ownsRow wC.heap.size 9 1 (.slice A2 O c2) q.o.length (q.o.map Value.string) ∧ ∀ g, Value.ownBlock (.slice A1 N c1) = some g → Value.ownBlock (.slice A2 O c2) ≠ some g), (fun _ _ e h => ⟨h.1.trans e, own_stab3 e h.2.1, own_stab3 e h.2.2.1, h.2.2.2⟩), .inr fun _ h => h.1, ⟨hz'.out.1.trans hE5, own_stab3 hE5 hz'.out.2.1, by have := own_base ho5 hz'.out.1.size; rwa [HO.out] at this ⊢, h12⟩, ?_⟩
      clear hK K hz' hE5 ho5 h12 w5 wz
      refine wpY_one 11 (by kernel_rfl) rfl rfl (fun wz hz K hK => ?_)
      have hz' := Lib.hid hz
      clear hz
      go_simp
      refine hK _ _ ⟨(fun wx => Ext wC wx ∧ wx.ownsRow wC.heap.size 9 1 (.slice A1 N c1) q.n.length (q.n.map Value.string) ∧ wx.ownsRow wC.heap.size 9 1 (.slice A2 O c2) q.o.length (q.o.map Value.string) ∧ ∀ g, Value.ownBlock (.slice A1 N c1) = some g → Value.ownBlock (.slice A2 O c2) ≠ some g), (fun _ _ e h => ⟨h.1.trans e, own_stab3 e h.2.1, own_stab3 e h.2.2.1, h.2.2.2⟩), .inr fun _ h => h.1, hz'.out, ?_⟩
      clear hK K hz' wz
      refine wpY_one 12 (by kernel_rfl) rfl rfl (fun wz hz K hK => ?_)
      obtain ⟨z12, hz12⟩ : ∃ z, wz.heap.size = z := ⟨_, rfl⟩
      have nb := Blk.new wz (.cells #[.int .i64 H2, (.slice A1 N c1), (.slice A2 O c2)] 69) hz12.symm
      have ne := (Ext.refl wz).alloc (.cells #[.int .i64 H2, (.slice A1 N c1), (.slice A2 O c2)] 69)
      have kA := Lib.hid (⟨hz.1.trans ne, own_stab3 ne hz.2.1, own_stab3 ne hz.2.2.1, hz.2.2.2, nb⟩ : _ ∧ _ ∧ _ ∧ _ ∧ _)
      clear hz nb ne
      go_simp
      refine hK _ _ ⟨(fun wx => Ext wC wx ∧ wx.ownsRow wC.heap.size 9 1 (.slice A1 N c1) q.n.length (q.n.map Value.string) ∧ wx.ownsRow wC.heap.size 9 1 (.slice A2 O c2) q.o.length (q.o.map Value.string) ∧ (∀ g, Value.ownBlock (.slice A1 N c1) = some g → Value.ownBlock (.slice A2 O c2) ≠ some g) ∧ Blk wx z12 (.cells #[.int .i64 H2, (.slice A1 N c1), (.slice A2 O c2)] 69)), (fun _ _ e h => ⟨h.1.trans e, own_stab3 e h.2.1, own_stab3 e h.2.2.1, h.2.2.2.1, h.2.2.2.2.ext e⟩), .inr fun _ h => h.1, kA.out, ?_⟩
      clear kA hK K hz12 wz
      refine wpY_one 13 (by kernel_rfl) rfl rfl (fun wz hz K hK => ?_)
      have hmz := HM.out.ext (XC.out.trans hz.1)
      refine wp_append (.tmp 25) (.tmp 37) 32 rfl w.heap.size 69 hnf _ 3 56 underHk J1.out J2.out J3.out J4.out rfl (by decide) u5 ((hksG 0 (swG L)).take k).length (hcs ((hksG 0 (swG L)).take k) va) (some ⟨z12, 0, none⟩) 1 1 [.int .i64 H2, (.slice A1 N c1), (.slice A2 O c2)] rfl rfl rfl (by intro u hu; simp only [List.mem_cons, List.not_mem_nil, or_false] at hu; rcases hu with rfl | rfl | rfl <;> rfl) (by rw [HOL9.out]; simp only [maxLen]; omega) (by rw [HOL9.out]; omega) hmz.own (.inr ⟨z12, 0, rfl, fun j u hu => by rw [hz.2.2.2.2.cell]; simpa using hu⟩) (Nat.le_trans HEW.out.size (Nat.le_trans XC.out.size hz.1.size)) (fun v1 wy hown hgr hbl => ?_)
      have kM := hmz.pushW (x := ⟨H2, q.n, q.o⟩) HZV.out hz.2.1 hz.2.2.1 hz.2.2.2.1 (Nat.le_trans HEW.out.size XC.out.size) hgr hown
      have kE := hmz.grow_ext (HEW.out.trans (XC.out.trans hz.1)) hgr
      have kB : Blk wy z (.cells #[.int .i64 H, .slice oa O oc, .slice na N nc] 69) := (NC.out.ext hz.1).lv ((Lv.refl (fun g => Value.ownBlock u5 = some g) wz).grown hgr (fun k hk _ => hk)) (fun e => by
        obtain ⟨_, c, hc⟩ := own_blk HM.out.own e
        have := hc.lt
        have := HZZ.out
        omega)
      rw [← HTK.out] at kM
      have ho9 := kM.own
      rw [List.length_take, hksG_len, swG_len, HN.out, show min (k + 1) n = k + 1 by omega] at ho9
      obtain ⟨g9, k9, rfl⟩ := ownsRow_succ ho9
      simp only [Act.put, List.setIfInBounds_toArray, List.set_cons_zero, List.set_cons_succ]
      refine hK _ _ ⟨(fun wx => HMem w.heap.size (.slice (some ⟨g9, 0, none⟩) (k + 1) k9) (va ++ [(.slice A1 N c1), (.slice A2 O c2)]) (va ++ [(.slice A1 N c1), (.slice A2 O c2)]) ((hksG 0 (swG L)).take (k + 1)) (hls ((hksG 0 (swG L)).take (k + 1))) wx ∧ Ext w wx ∧ Blk wx z (.cells #[.int .i64 H, .slice oa O oc, .slice na N nc] 69)), (fun _ _ e h => ⟨h.1.ext e, h.2.1.trans e, h.2.2.ext e⟩), .inl (by kernel_rfl), ⟨kM, kE, kB⟩, ?_⟩
      clear kM kE kB hown hgr hbl ho9 hmz hK K hz wz wy
      refine wpY_one 14 (by kernel_rfl) rfl rfl (fun wz hz K hK => ?_)
      have hz' := Lib.hid hz
      clear hz
      go_simp
      refine hK _ _ ⟨(fun wx => HMem w.heap.size (.slice (some ⟨g9, 0, none⟩) (k + 1) k9) (va ++ [(.slice A1 N c1), (.slice A2 O c2)]) (va ++ [(.slice A1 N c1), (.slice A2 O c2)]) ((hksG 0 (swG L)).take (k + 1)) (hls ((hksG 0 (swG L)).take (k + 1))) wx ∧ Ext w wx ∧ Blk wx z (.cells #[.int .i64 H, .slice oa O oc, .slice na N nc] 69)), (fun _ _ e h => ⟨h.1.ext e, h.2.1.trans e, h.2.2.ext e⟩), .inl (by kernel_rfl), hz'.out, ?_⟩
      clear hK K hz' wz
      refine wpY_done (by kernel_rfl) (fun wz hz => ?_) _
      have HZ := Lib.hid hz
      have h1 : wz.cell? ⟨z, 1, none⟩ = some (.slice oa O oc) := hz.2.2.cell 1
      have h2 : wz.cell? ⟨z, 2, none⟩ = some (.slice na N nc) := hz.2.2.cell 2
      clear hz
      go_wp2_with fail
      go_roundw
      case rel => exact ⟨k + 1, by omega, by go_num, by rw [HNX.out], HZ.out.2.1, _, HZ.out.1⟩
      case measure => simp [intOf]; omega
    · have hkn : k = n := by omega
      have htt : (hksG 0 (swG L)).take k = hksG 0 (swG L) := List.take_of_length_le (by rw [hksG_len, swG_len, HN.out]; omega)
      have hm := HM.out
      rw [htt] at hm
      have HM9 := Lib.hid hm
      clear hm htt
      go_wp2_with fail
      exact bodyPost_ret (v := .tuple #[u5, .int .i64 0]) (by simp [results, Tryz.results11, go_sem]) rfl ⟨HEW.out, _, _, rfl, HM9.out⟩
end Go.Proofs.YtmmcjcaccicheaaGreatDoor

/- UdApp: parts of the proof of TopDifferences, one text behind the other. No condition. -/
import Derived.Test.YtmmcjcaccicheaaGreatDoorT31
import Derived.Test.YtmmcjcaccicheaaGreatDoorT26
import Derived.Test.YtmmcjcaccicheaaGreatDoorT27
import Derived.Test.YtmmcjcaccicheaaGreatDoorT28
import Derived.Test.YtmmcjcaccicheaaGreatDoorT32
/- The contract of unified's Apply at reach 0, for blocks that fit. -/
namespace Go.Proofs.YtmmcjcaccicheaaGreatDoor
open Go.RowKit

/-! ### The plain side -/
theorem oldS_app (a b : List GB) : oldS (a ++ b) = oldS a ++ oldS b := by
  induction a with
  | nil => rfl
  | cons s r ih => simp [oldS, ih]
theorem newS_app (a b : List GB) : newS (a ++ b) = newS a ++ newS b := by
  induction a with
  | nil => rfl
  | cons s r ih => simp [newS, ih]
theorem bksS_len : ∀ (L : List GB) (x y : Nat), (bksS x y L).length = L.length
  | [], _, _ => rfl
  | p :: r, x, y => by simp [bksS, bksS_len r]
theorem bksS_get : ∀ (L : List GB) (x y k : Nat) (p : GB), L[k]? = some p → (bksS x y L)[k]? = some ⟨x + (oldS (L.take k)).length + p.1.length, (oldB p.2).length, y + (newS (L.take k)).length + p.1.length, (newB p.2).length, p.2⟩
  | q :: r, x, y, 0, p, h => by
    obtain rfl : q = p := by simpa using h
    simp [bksS, oldS, newS]
  | q :: r, x, y, k + 1, p, h => by
    have := bksS_get r (x + q.1.length + (oldB q.2).length) (y + q.1.length + (newB q.2).length) k p (by simpa using h)
    simp only [bksS, List.getElem?_cons_succ, List.take_succ_cons, oldS, newS, List.length_append] at this ⊢
    rw [this]
    simp only [Option.some.injEq, Bk.mk.injEq, and_true, true_and]
    omega
theorem oldS_next {L : List GB} {k : Nat} {p : GB} (h : L[k]? = some p) : oldS (L.take (k + 1)) = oldS (L.take k) ++ p.1 ++ oldB p.2 := by
  rw [take_succ_of h, oldS_app]; simp [oldS]
theorem newS_next {L : List GB} {k : Nat} {p : GB} (h : L[k]? = some p) : newS (L.take (k + 1)) = newS (L.take k) ++ p.1 ++ newB p.2 := by
  rw [take_succ_of h, newS_app]; simp [newS]
theorem oldS_cut (L : List GB) (k : Nat) : oldS L = oldS (L.take k) ++ oldS (L.drop k) := by rw [← oldS_app, List.take_append_drop]
theorem newS_cut (L : List GB) (k : Nat) : newS L = newS (L.take k) ++ newS (L.drop k) := by rw [← newS_app, List.take_append_drop]
theorem cho_mem {t : Tg} : ∀ {b : Bdy} {s : ByteArray}, s ∈ choB t b → ∃ x ∈ b, x.s = s := by
  intro b s h
  have hO : ∀ b : Bdy, s ∈ oldB b → ∃ x ∈ b, x.s = s := by
    intro b h
    induction b with
    | nil => simp [oldB] at h
    | cons x r ih =>
      obtain ⟨u, v⟩ := x
      cases u <;> simp only [oldB, List.mem_cons] at h
      · rcases h with rfl | h
        · exact ⟨_, List.mem_cons_self, rfl⟩
        · obtain ⟨y, hy, e⟩ := ih h; exact ⟨y, by simp [hy], e⟩
      · rcases h with rfl | h
        · exact ⟨_, List.mem_cons_self, rfl⟩
        · obtain ⟨y, hy, e⟩ := ih h; exact ⟨y, by simp [hy], e⟩
      · obtain ⟨y, hy, e⟩ := ih h; exact ⟨y, by simp [hy], e⟩
  have hN : ∀ b : Bdy, s ∈ newB b → ∃ x ∈ b, x.s = s := by
    intro b h
    induction b with
    | nil => simp [newB] at h
    | cons x r ih =>
      obtain ⟨u, v⟩ := x
      cases u <;> simp only [newB, List.mem_cons] at h
      · rcases h with rfl | h
        · exact ⟨_, List.mem_cons_self, rfl⟩
        · obtain ⟨y, hy, e⟩ := ih h; exact ⟨y, by simp [hy], e⟩
      · obtain ⟨y, hy, e⟩ := ih h; exact ⟨y, by simp [hy], e⟩
      · rcases h with rfl | h
        · exact ⟨_, List.mem_cons_self, rfl⟩
        · obtain ⟨y, hy, e⟩ := ih h; exact ⟨y, by simp [hy], e⟩
  unfold choB at h
  split at h
  · first | exact hO b h | exact hN b h
  · first | exact hO b h | exact hN b h
  all_goals first | exact hO b h | exact hN b h
theorem cho_strs {w : World} {A : Option Addr} {n : Nat} {l : Bdy} (h : Strs w A n (l.map lnS)) (t : Tg) : ∀ s ∈ choB t l, s.size ≤ Reach := by
  intro s hs
  obtain ⟨x, hx, rfl⟩ := cho_mem hs
  have := h.2.1 (lnS x) (List.mem_map.2 ⟨x, hx, rfl⟩)
  rw [lnS_size] at this
  omega
theorem drop_take_mid {P K R : Lns} {x n : Nat} (hx : x = P.length) (hn : n = K.length) : ((P ++ K ++ R).drop x).take n = K := slice_of hx hn

theorem own_shp {w : World} {base : Nat} {e : TypeId} {size n : Nat} {v : Value} {xs : List Value} (h : w.ownsRow base e size v n xs) : ∃ A c, v = .slice A n c := by
  rcases h.2 with ⟨rfl, rfl⟩ | ⟨g, cap, cur, rfl, -⟩
  · exact ⟨_, _, rfl⟩
  · exact ⟨_, _, rfl⟩
/-! ### The walk -/
/-- What holds between two blocks. -/
structure AI (w : World) (L : List GB) (k : Nat) (v pv : Value) (W : World) : Prop where
  ext : Ext w W
  out : W.ownsRow w.heap.size 9 1 v (newS (L.take k)).length ((newS (L.take k)).map Value.string)
  pl : ∃ pl, W.ownsRow w.heap.size 3 1 pv k pl
set_option maxRecDepth 100000 in
set_option maxHeartbeats 16000000 in
theorem apply_any (A B : Option Addr) (n c m d : Nat) (L : List GB) (t : Lns) (w : World) (ha : Strs w A n (oldS L ++ t)) (hb : Bks w B m (bksS 0 0 L)) (hn : n ≤ 1000) (hnc : n ≤ c) (hc0 : c ≤ maxLen) (hm : m ≤ 1000) (hmd : m ≤ d) (hd0 : d ≤ maxLen)
    (hok : okKs 0 (-1) (bksS 0 0 L)) (hf : ∀ x ∈ bksS 0 0 L, BFit x) (hnew : (newS L).length ≤ 1000) (hsz : ∀ s ∈ newS L, s.size ≤ Reach) :
    Calls Tryz.prog 19 #[.slice A n c, .slice B m d, .int .i64 0] w fun r w' => Ext w w' ∧ ∃ v pA pc, r = .returned (.tuple #[v, .slice pA m pc, .int .i64 0]) ∧ w'.ownsRow w.heap.size 9 1 v (newS L ++ t).length ((newS L ++ t).map Value.string) := by
  have hchk := chk_any B m d _ w hb (by omega) hmd hd0 hok (fun x hx => by have := (hf x hx).len; omega)
  have hlen := hb.len
  rw [bksS_len] at hlen
  have hin := inrange_is (n := 0) (w := w) (by omega) (by omega)
  have halen := ha.len
  rw [List.length_append] at halen
  obtain ⟨snf, j1, j2, j3, j4⟩ := info_of infoS
  obtain ⟨inf, i1, i2, i3, i4⟩ := info_of infoInt
  have J1 := Lib.hid j1; have J2 := Lib.hid j2; have J3 := Lib.hid j3; have J4 := Lib.hid j4; have I1 := Lib.hid i1; have I2 := Lib.hid i2; have I3 := Lib.hid i3; have I4 := Lib.hid i4
  have HA := Lib.hid ha; have HB := Lib.hid hb; have HF := Lib.hid hf; have HN := Lib.hid hlen; have HNW := Lib.hid hnew; have HSZ := Lib.hid hsz; have HAL := Lib.hid halen
  clear ha hb hf hlen hok hnew hsz halen i1 i2 i3 i4 j1 j2 j3 j4
  go_enter Tryz.func19, Tryz.ntmps19
  go_wp2_with fail
  refine hchk.mono ?_
  rintro e w1 ⟨rfl, hE1⟩
  have HE1 := Lib.hid hE1; clear hE1 hchk hin
  have hin := inrange_is (n := 0) (w := w1) (by omega) (by omega)
  go_wp2_with fail
  refine hin.mono ?_
  rintro e w2 ⟨rfl, rfl⟩
  clear hin
  go_wp2_with fail
  go_loopw [11, 12, 13, 14, 32] (fun v pv at_ sh i wr => ∃ k : Nat, k ≤ m ∧ i = .int .i64 k ∧ at_ = .int .i64 (oldS (L.take k)).length ∧ sh = .int .i64 0 ∧ AI w L k v pv wr) (fun _ _ _ _ i _ => m - (intOf i).toNat)
  case atStart => exact ⟨0, by omega, rfl, rfl, rfl, HE1.out, World.ownsRow_nil _ _ _ _, _, World.ownsRow_nil _ _ _ _⟩
  case round =>
    obtain ⟨k, hk, rfl, rfl, rfl, hI⟩ := hrel
    have HI := Lib.hid hI; clear hI
    have hol : (oldS (L.take k)).length ≤ n := by have := HAL.out; rw [oldS_cut L k, List.length_append] at this; omega
    by_cases hlt : k < m
    · obtain ⟨p, hp⟩ : ∃ p, L[k]? = some p := ⟨_, List.getElem?_eq_getElem (by rw [HN.out]; exact hlt)⟩
      have hbk := bksS_get L 0 0 k p hp
      obtain ⟨b, off, mm, x, rfl, hb1, hx, hr, c0, c1, c2, c3, c4⟩ := HB.out.get hlt
      rw [hbk] at hx
      obtain rfl := Option.some.inj hx
      obtain ⟨moa, mol, mna, mnl, mla, mln, mlc⟩ := mm
      obtain ⟨g1, b1⟩ := p
      have hold := oldS_next hp
      have hnewn := newS_next hp
      have hc1 := oldS_cut L (k + 1)
      have hc2 := newS_cut L (k + 1)
      rw [hold] at hc1
      rw [hnewn] at hc2
      have hnl := HNW.out
      rw [hc2] at hnl
      simp only [List.length_append] at hnl
      have hol2 := HAL.out
      rw [hc1] at hol2
      simp only [List.length_append] at hol2
      have hgap : ((oldS L ++ t).drop (oldS (L.take k)).length).take g1.length = g1 := by
        rw [hc1]
        have := drop_take_mid (P := oldS (L.take k)) (K := g1) (R := oldB b1 ++ oldS (L.drop (k + 1)) ++ t) rfl rfl
        simp [List.append_assoc]
      have hbod : ((oldS L ++ t).drop ((oldS (L.take k)).length + g1.length)).take (oldB b1).length = oldB b1 := by
        rw [hc1]
        simp [List.append_assoc]
      have hml : mln ≤ 100000 := by
        have h1 := hr.ls.1
        have h2 := (HF.out _ (mem_of_get hbk)).len
        simp only [List.length_map] at h1 h2
        omega
      have hls : Strs w mla mln (b1.map lnS) := hr.ls
      have hoa : moa = ((oldS (L.take k)).length + g1.length : Nat) := by have := hr.oa; simpa using this
      have holx : mol = ((oldB b1).length : Int) := hr.ol
      have hsz0 : ∀ s ∈ newS (L.take k), s.size ≤ Reach := fun s hs => HSZ.out s (by rw [newS_cut L k]; simp [hs])
      obtain ⟨A0, c0', rfl, hc0', hs0⟩ := own_strs HI.out.out hsz0
      obtain ⟨pl, hpl⟩ := HI.out.pl
      have hEw := HI.out.ext
      dsimp only at c0 c1 c2 c3 c4
      rw [hoa] at c0; rw [holx] at c1
      replace c0 := hEw.cell c0; replace c1 := hEw.cell c1; replace c2 := hEw.cell c2; replace c3 := hEw.cell c3; replace c4 := hEw.cell c4
      have hlsr := hls.ext hEw
      have hAr := HA.out.ext hEw
      obtain ⟨P, hP⟩ : ∃ P, (oldS (L.take k)).length = P := ⟨_, rfl⟩
      obtain ⟨G, hG⟩ : ∃ G, g1.length = G := ⟨_, rfl⟩
      obtain ⟨O, hO⟩ : ∃ O, (oldB b1).length = O := ⟨_, rfl⟩
      obtain ⟨e, he⟩ : ∃ e, P + G = e := ⟨_, rfl⟩
      have hPe : P ≤ e := by omega
      have heG : e - P = G := by omega
      rw [hP, hG, he] at c0
      rw [hO] at c1
      rw [hP, hG] at hgap
      rw [hP, hG, hO] at hbod hol2
      rw [he] at hbod hol2
      have HPL := Lib.hid hpl; have HEW := Lib.hid hEw; have HLSR := Lib.hid hlsr; have HAR := Lib.hid hAr; have HS0 := Lib.hid hs0; have HNX := Lib.hid hnewn; have HOX := Lib.hid hold; have HGAP := Lib.hid hgap; have HBOD := Lib.hid hbod; have HNL := Lib.hid hnl; have HP := Lib.hid hP; have HG := Lib.hid hG; have HO := Lib.hid hO
      rw [hP]
      have K1 := Lib.hid (⟨Blk.new wr (BkM.obj ⟨(e : Nat), (O : Int), mna, mnl, mla, mln, mlc⟩) rfl, (Ext.refl wr).alloc (BkM.obj ⟨(e : Nat), (O : Int), mna, mnl, mla, mln, mlc⟩)⟩ : Blk _ _ _ ∧ Ext _ _)
      obtain ⟨z, hz'⟩ : ∃ z, wr.heap.size = z := ⟨_, rfl⟩
      clear hold hnewn hc1 hc2 hgap hbod hr hls hlsr hAr hs0 hoa holx hsz0 hp hbk hx hpl hEw hnl hP hG hO HB HF HI
      have hPG : e + O ≤ n := by omega
      have hwe : IntKind.i64.wrap (e : Int) = e := IntWalk.i64_in _ (by omega)
      have hec : e ≤ c := by omega
      have HEG := Lib.hid heG; have HHE := Lib.hid he
      have hwo : IntKind.i64.wrap ((e : Int) + O) = (e : Int) + O := IntWalk.i64_in _ (by omega)
      clear heG he
      clear hol2
      rw [hz'] at K1
      go_wp2_with fail
      clear hz' c0 c1 c2 c3 c4
      refine wp_region_X (T := fun wx => Blk wx z (BkM.obj ⟨(e : Nat), (O : Int), mna, mnl, mla, mln, mlc⟩)) (fun wx => Blk wx z (BkM.obj ⟨(e : Nat), (O : Int), mna, mnl, mla, mln, mlc⟩) ∧ Ext wr wx) (by kernel_rfl) ⟨K1.out.1.drew, K1.out.2.drew⟩ (wpX_takes (by kernel_rfl) (fun _ d _ _ _ h => by cases d <;> exact h) (fun _ _ e h => ⟨h.1.ext e, h.2.trans e⟩) (fun _ h => h.1) (fuel := 7) [0, 1, 2, 4, 5, 6, 7, 8, 9] _ _ (by kernel_rfl) ?_)
      iterate 9
        refine wpTk_want rfl (Eq.refl true) ?_
        apply Exists.intro
        refine ⟨fun wx hx => ?_, ?_⟩
        · obtain ⟨d0, d1, d2, d3, d4⟩ := hx.cells5
          clear hx
          go_simp
          with_reducible exact gives_ok _ _ _
        simp only [Act.put, List.setIfInBounds_toArray, List.set_cons_zero, List.set_cons_succ]
      refine wpTk_nil ?_
      refine wpX_one 3 (by kernel_rfl) rfl rfl (fun wz hz K hK => ?_)
      have hz' := Lib.hid hz
      clear hz
      go_simp
      refine (chosen_any .del (by decide) 45 rfl mla mln mlc b1 wz (HLSR.out.ext hz'.out.2) hml).mono ?_
      rintro r w5 ⟨hE5, v5, rfl, ho5⟩
      obtain ⟨A5, c5, rfl, hc5, hs5⟩ := own_strs ho5 (cho_strs HLSR.out _)
      have hs5' : Strs w5 A5 O (oldB b1) := by rw [← HO.out]; exact hs5
      rw [show (choB .del b1).length = O from HO.out] at hc5 ⊢
      refine hK _ _ ⟨(fun wx => Blk wx z (BkM.obj ⟨(e : Nat), (O : Int), mna, mnl, mla, mln, mlc⟩) ∧ Ext wr wx ∧ Strs wx A5 O (oldB b1)), (fun _ _ e h => ⟨h.1.ext e, h.2.1.trans e, h.2.2.ext e⟩), fun _ h => h.1, ⟨hz'.out.1.ext hE5, hz'.out.2.trans hE5, hs5'⟩, ?_⟩
      clear hK K hz' hE5 ho5 hs5 hs5' w5 wz
      refine wpX_one 10 (by kernel_rfl) rfl rfl (fun wz hz K hK => ?_)
      have hz' := Lib.hid hz
      clear hz
      go_simp
      refine (nearest_any A A5 n c O c5 (oldS L ++ t) (oldB b1) P e wz (HAR.out.ext hz'.out.2.1) hz'.out.2.2 (by omega) (by omega) hnc hc0 (by omega) (by omega) HBOD.out).mono ?_
      rintro r w5 ⟨rfl, hE5⟩
      refine hK _ _ ⟨(fun wx => Blk wx z (BkM.obj ⟨(e : Nat), (O : Int), mna, mnl, mla, mln, mlc⟩) ∧ Ext wr wx), (fun _ _ e h => ⟨h.1.ext e, h.2.trans e⟩), fun _ h => h.1, ⟨hz'.out.1.ext hE5, hz'.out.2.1.trans hE5⟩, ?_⟩
      clear hK K hz' hE5 w5 wz hc5
      refine wpX_takes (by kernel_rfl) (fun _ d _ _ _ h => by cases d <;> exact h) (fun _ _ e h => ⟨h.1.ext e, h.2.trans e⟩) (fun _ h => h.1) (fuel := 2) [11, 12, 13] _ _ (by kernel_rfl) ?_
      iterate 3
        refine wpTk_want rfl (Eq.refl true) ?_
        apply Exists.intro
        refine ⟨fun wx hx => ?_, ?_⟩
        · obtain ⟨d0, d1, d2, d3, d4⟩ := hx.cells5
          clear hx
          go_simp
          with_reducible exact gives_ok _ _ _
        simp only [Act.put, List.setIfInBounds_toArray, List.set_cons_zero, List.set_cons_succ]
      refine wpTk_nil ?_
      refine wpX_one 14 (by kernel_rfl) rfl rfl (fun wz hz K hK => ?_)
      have hz' := Lib.hid hz
      clear hz
      go_simp
      refine hK _ _ ⟨(fun wx => Blk wx z (BkM.obj ⟨(e : Nat), (O : Int), mna, mnl, mla, mln, mlc⟩) ∧ Ext wr wx), (fun _ _ e h => ⟨h.1.ext e, h.2.trans e⟩), fun _ h => h.1, hz'.out, ?_⟩
      clear hK K hz' wz
      refine wpX_one 15 (by kernel_rfl) rfl rfl (fun wz hz K hK => ?_)
      have hz' := Lib.hid hz
      clear hz
      go_simp
      refine hK _ _ ⟨(fun wx => Blk wx z (BkM.obj ⟨(e : Nat), (O : Int), mna, mnl, mla, mln, mlc⟩) ∧ Ext wr wx), (fun _ _ e h => ⟨h.1.ext e, h.2.trans e⟩), fun _ h => h.1, hz'.out, ?_⟩
      clear hK K hz' wz
      refine wpX_done (by kernel_rfl) (fun wz hz => ?_) _
      have HZ := Lib.hid hz
      clear hz
      obtain ⟨A1, hA1⟩ : ∃ A', (if c = P then A else A.map (fun x => x.add P)) = A' := ⟨_, rfl⟩
      go_wp2_with fail
      refine wp_region_X (T := fun wx => Blk wx z (BkM.obj ⟨(e : Nat), (O : Int), mna, mnl, mla, mln, mlc⟩)) (fun wx => Blk wx z (BkM.obj ⟨(e : Nat), (O : Int), mna, mnl, mla, mln, mlc⟩) ∧ Ext wr wx) (by kernel_rfl) ⟨HZ.out.1.drew, HZ.out.2.drew⟩ (wpX_takes (by kernel_rfl) (fun _ d _ _ _ h => by cases d <;> exact h) (fun _ _ e h => ⟨h.1.ext e, h.2.trans e⟩) (fun _ h => h.1) (fuel := 4) [0, 1, 2, 3, 4, 5, 6] _ _ (by kernel_rfl) ?_)
      iterate 7
        refine wpTk_want rfl (Eq.refl true) ?_
        apply Exists.intro
        refine ⟨fun wx hx => ?_, ?_⟩
        · obtain ⟨d0, d1, d2, d3, d4⟩ := hx.cells5
          clear hx
          go_simp
          with_reducible exact gives_ok _ _ _
        simp only [Act.put, List.setIfInBounds_toArray, List.set_cons_zero, List.set_cons_succ]
      refine wpTk_nil ?_
      refine wpX_one 7 (by kernel_rfl) rfl rfl (fun wz hz K hK => ?_)
      have hz' := Lib.hid hz
      clear hz
      go_simp
      refine (chosen_any .add (by decide) 43 rfl mla mln mlc b1 wz (HLSR.out.ext hz'.out.2) hml).mono ?_
      rintro r w5 ⟨hE5, v5, rfl, ho5⟩
      obtain ⟨A7, c7, rfl, hc7, hs7⟩ := own_strs ho5 (cho_strs HLSR.out _)
      refine hK _ _ ⟨(fun wx => Blk wx z (BkM.obj ⟨(e : Nat), (O : Int), mna, mnl, mla, mln, mlc⟩) ∧ Ext wr wx ∧ Strs wx A7 (newB b1).length (newB b1)), (fun _ _ e h => ⟨h.1.ext e, h.2.1.trans e, h.2.2.ext e⟩), fun _ h => h.1, ⟨hz'.out.1.ext hE5, hz'.out.2.trans hE5, hs7⟩, ?_⟩
      rw [show choB .add b1 = newB b1 from rfl]
      clear hK K hz' hE5 ho5 hs7 w5 wz hc7
      refine wpX_one 8 (by kernel_rfl) rfl rfl (fun wz hz K hK => ?_)
      obtain ⟨z8, hz8⟩ : ∃ z, wz.heap.size = z := ⟨_, rfl⟩
      have nb8 := Blk.new wz (.cells #[.slice A0 (newS (L.take k)).length c0', .slice A1 (e - P) (c - P), .slice A7 (newB b1).length c7] 22) hz8.symm
      have ne := (Ext.refl wz).alloc (.cells #[.slice A0 (newS (L.take k)).length c0', .slice A1 (e - P) (c - P), .slice A7 (newB b1).length c7] 22)
      have kA := Lib.hid (⟨hz.1.ext ne, hz.2.1.trans ne, hz.2.2.ext ne, nb8⟩ : _ ∧ _ ∧ _ ∧ _)
      clear hz nb8 ne
      go_simp
      refine hK _ _ ⟨(fun wx => Blk wx z (BkM.obj ⟨(e : Nat), (O : Int), mna, mnl, mla, mln, mlc⟩) ∧ Ext wr wx ∧ Strs wx A7 (newB b1).length (newB b1) ∧ Blk wx z8 (.cells #[.slice A0 (newS (L.take k)).length c0', .slice A1 (e - P) (c - P), .slice A7 (newB b1).length c7] 22)), (fun _ _ e h => ⟨h.1.ext e, h.2.1.trans e, h.2.2.1.ext e, h.2.2.2.ext e⟩), fun _ h => h.1, kA.out, ?_⟩
      clear kA hK K hz8 wz
      refine wpX_one 9 (by kernel_rfl) rfl rfl (fun wz hz K hK => ?_)
      have hz' := Lib.hid hz
      clear hz
      go_simp
      have hcn : cat [⟨A0, (newS (L.take k)).length, c0', newS (L.take k)⟩, ⟨A1, e - P, c - P, g1⟩, ⟨A7, (newB b1).length, c7, newB b1⟩] = newS (L.take (k + 1)) := by
        rw [HNX.out]; simp [cat]
      have hgs : Strs wr A1 (e - P) g1 := by
        have := strs_cut (HAR.out) hnc (lo := P) (k := e - P) (by omega) hA1
        rw [HEG.out] at this ⊢
        rw [HGAP.out] at this; exact this
      have hcc := concat_any [⟨A0, (newS (L.take k)).length, c0', newS (L.take k)⟩, ⟨A1, e - P, c - P, g1⟩, ⟨A7, (newB b1).length, c7, newB b1⟩] 3 z8 wz rfl (by omega) hz'.out.2.2.2 (by
        intro x hx
        simp only [List.mem_cons, List.not_mem_nil, or_false] at hx
        rcases hx with rfl | rfl | rfl
        · exact HS0.out.ext hz'.out.2.1
        · exact hgs.ext hz'.out.2.1
        · exact hz'.out.2.2.1) (by
        have h1 := HNL.out; have h2 := HEG.out; have h3 := HG.out
        simp only [tot]; omega)
      rw [hcn] at hcc
      refine hcc.mono ?_
      rintro r w5 ⟨hE5, v9, rfl, ho5⟩
      refine hK _ _ ⟨(fun wx => Blk wx z (BkM.obj ⟨(e : Nat), (O : Int), mna, mnl, mla, mln, mlc⟩) ∧ Ext wr wx ∧ wx.ownsRow w.heap.size 9 1 v9 (newS (L.take (k + 1))).length ((newS (L.take (k + 1))).map Value.string)), (fun _ _ e h => ⟨h.1.ext e, h.2.1.trans e, own_stab3 e h.2.2⟩), fun _ h => h.1, ⟨hz'.out.1.ext hE5, hz'.out.2.1.trans hE5, own_base ho5 (by have := HEW.out.size; have := hz'.out.2.1.size; omega)⟩, ?_⟩
      clear hcc hcn hgs hK K hz' hE5 ho5 w5 wz
      refine wpX_one 10 (by kernel_rfl) rfl rfl (fun wz hz K hK => ?_)
      have hz' := Lib.hid hz
      clear hz
      go_simp
      refine hK _ _ ⟨(fun wx => Blk wx z (BkM.obj ⟨(e : Nat), (O : Int), mna, mnl, mla, mln, mlc⟩) ∧ Ext wr wx ∧ wx.ownsRow w.heap.size 9 1 v9 (newS (L.take (k + 1))).length ((newS (L.take (k + 1))).map Value.string)), (fun _ _ e h => ⟨h.1.ext e, h.2.1.trans e, own_stab3 e h.2.2⟩), fun _ h => h.1, hz'.out, ?_⟩
      clear hK K hz' wz
      refine wpX_done (by kernel_rfl) (fun wz hz => ?_) _
      have HZ2 := Lib.hid hz
      clear hz HZ
      go_wp2_with fail
      refine wp_region_X (T := fun wx => Blk wx z (BkM.obj ⟨(e : Nat), (O : Int), mna, mnl, mla, mln, mlc⟩)) (fun wx => Blk wx z (BkM.obj ⟨(e : Nat), (O : Int), mna, mnl, mla, mln, mlc⟩) ∧ Ext wr wx ∧ wx.ownsRow w.heap.size 9 1 v9 (newS (L.take (k + 1))).length ((newS (L.take (k + 1))).map Value.string)) (by kernel_rfl) ⟨HZ2.out.1.drew, HZ2.out.2.1.drew, own_stab3 (Ext.refl _).drew HZ2.out.2.2⟩ (wpX_takes (by kernel_rfl) (fun _ d _ _ _ h => by cases d <;> exact h) (fun _ _ e h => ⟨h.1.ext e, h.2.1.trans e, own_stab3 e h.2.2⟩) (fun _ h => h.1) (fuel := 2) [0, 1, 2, 3, 4, 5, 6, 7] _ _ (by kernel_rfl) ?_)
      iterate 8
        refine wpTk_want rfl (Eq.refl true) ?_
        apply Exists.intro
        refine ⟨fun wx hx => ?_, ?_⟩
        · obtain ⟨d0, d1, d2, d3, d4⟩ := hx.cells5
          clear hx
          go_simp
          with_reducible exact gives_ok _ _ _
        simp only [Act.put, List.setIfInBounds_toArray, List.set_cons_zero, List.set_cons_succ]
      refine wpTk_nil ?_
      refine wpX_one 8 (by kernel_rfl) rfl rfl (fun wz hz K hK => ?_)
      have hz' := Lib.hid hz
      clear hz
      go_simp
      refine hK _ _ ⟨(fun wx => Blk wx z (BkM.obj ⟨(e : Nat), (O : Int), mna, mnl, mla, mln, mlc⟩) ∧ Ext wr wx ∧ wx.ownsRow w.heap.size 9 1 v9 (newS (L.take (k + 1))).length ((newS (L.take (k + 1))).map Value.string)), (fun _ _ e h => ⟨h.1.ext e, h.2.1.trans e, own_stab3 e h.2.2⟩), fun _ h => h.1, hz'.out, ?_⟩
      clear hK K hz' wz
      refine wpX_one 9 (by kernel_rfl) rfl rfl (fun wz hz K hK => ?_)
      have hz' := Lib.hid hz
      clear hz
      go_simp
      refine hK _ _ ⟨(fun wx => Blk wx z (BkM.obj ⟨(e : Nat), (O : Int), mna, mnl, mla, mln, mlc⟩) ∧ Ext wr wx ∧ wx.ownsRow w.heap.size 9 1 v9 (newS (L.take (k + 1))).length ((newS (L.take (k + 1))).map Value.string)), (fun _ _ e h => ⟨h.1.ext e, h.2.1.trans e, own_stab3 e h.2.2⟩), fun _ h => h.1, hz'.out, ?_⟩
      clear hK K hz' wz
      refine wpX_done (by kernel_rfl) (fun wz hz => ?_) _
      have HZ3 := Lib.hid hz
      clear hz HZ2
      have hkm : k ≤ 1000 := by omega
      have hsx : w.heap.size ≤ wz.heap.size := Nat.le_trans HEW.out.size HZ3.out.2.1.size
      go_wp2_with (at_builtin; refine wpList_append_size2 rfl (.tmp 70) (.tmp 72) 49 rfl w.heap.size 3 inf _ 1 8 underInts I1.out I2.out I3.out I4.out rfl (by decide) _ k pl (some ⟨wz.heap.size, 0, none⟩) 1 1 [.int .i64 e] rfl rfl rfl (by intro u hu; simp at hu; subst hu; rfl) (by simp only [maxLen]; omega) (by omega) (own_stab3 (HZ3.out.2.1.alloc _) HPL.out) (Cells.new wz _ [_] rfl) (by simp; omega) ?_; intro v2 w2 hown2 hg2 hb2)
      have HG2 := Lib.hid hg2; have HO2 := Lib.hid hown2; clear hg2 hown2 hb2
      go_wp2_with fail
      go_roundw
      case rel =>
        have hE := (HEW.out.trans HZ3.out.2.1).alloc (.cells #[.int .i64 e] 3)
        have hpl' := own_stab3 (HZ3.out.2.1.alloc (.cells #[.int .i64 e] 3)) HPL.out
        refine ⟨k + 1, by omega, by go_num, ?_, by go_num, hE.own3 hpl' HG2.out, own_grown (own_stab3 ((Ext.refl wz).alloc _) HZ3.out.2.2) hpl' (by decide) HG2.out, _, HO2.out⟩
        rw [HOX.out]
        simp only [List.length_append]
        have h1 := HP.out; have h2 := HG.out; have h3 := HO.out; have h4 := HHE.out
        exact congrArg (Value.int .i64) (by omega)
      case measure => simp [intOf]; omega
    · have hkm : k = m := by omega
      have htt : L.take k = L := List.take_of_length_le (by rw [HN.out]; omega)
      obtain ⟨hEw, ho, pl, hpl⟩ := HI.out
      rw [htt] at ho hol ⊢
      obtain ⟨A0, c0', rfl, hc0', hs0⟩ := own_strs ho HSZ.out
      obtain ⟨pA, pc, rfl⟩ := own_shp hpl
      have hol2 : (oldS L).length + t.length = n := HAL.out
      obtain ⟨P, hP⟩ : ∃ P, (oldS L).length = P := ⟨_, rfl⟩
      have htl : n - P = t.length := by omega
      have hdr : ((oldS L ++ t).drop P).take (n - P) = t := by
        rw [← hP, List.drop_left, List.take_of_length_le]; omega
      obtain ⟨A1, hA1⟩ : ∃ A', (if c = P then A else A.map (fun x => x.add P)) = A' := ⟨_, rfl⟩
      have hs1 := strs_cut (HA.out.ext hEw) hnc (lo := P) (k := n - P) (by omega) hA1
      rw [hdr] at hs1
      have hnw := HNW.out
      have hkw := hEw.size
      have HE := Lib.hid hEw; have HO := Lib.hid ho; have HS1 := Lib.hid hs1; have HPL := Lib.hid hpl; have HTL := Lib.hid htl
      rw [hP] at hol ⊢
      clear hEw ho hs1 hpl HI hs0 hdr htl htt
      go_wp2_with (at_builtin; refine wpList_append_size2 rfl (.tmp 75) (.tmp 78) 22 rfl w.heap.size 9 snf _ 1 16 underSs J1.out J2.out J3.out J4.out rfl (by decide) _ (newS L).length ((newS L).map Value.string) A1 (n - P) (c - P) (t.map Value.string) rfl rfl (by rw [HTL.out]; simp) (one_str _) (by simp only [maxLen]; omega) (by omega) HO.out HS1.out.2.2 hkw ?_; intro v2 w2 hown2 hg2 hb2)
      have HE3 := Lib.hid (HE.out.own3 HO.out hg2)
      have HO3 := Lib.hid hown2
      clear hown2 hg2 hb2
      go_wp2_with fail
      subst hkm
      refine bodyPost_ret (v := .tuple #[v2, .slice pA k pc, .int .i64 0]) (by simp [results, Tryz.results19, go_sem]) rfl ⟨HE3.out, _, _, _, rfl, ?_⟩
      have h := HO3.out
      rw [HTL.out] at h
      simpa using h
end Go.Proofs.YtmmcjcaccicheaaGreatDoor

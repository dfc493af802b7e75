/- Contracts: the reference's made, Put, Delete, Split. -/
import Derived.Test.YtbjniaihkllmdaaTrBuild
import Derived.Test.YtbjniaihkllmdaaTrRDiff
namespace Go.Proofs.Ytbjniaihkllmdaa
open Go.RowKit

theorem with_put {b : BT} {k v : ByteArray} (h : OK b) : withV (prsV b) ⟨k, v⟩ = prsV (putV k v b) := by
  obtain ⟨g1, g2, g3⟩ := put_spec k v b h.1 h.2.1
  obtain ⟨h1, h2⟩ := with_spec ⟨k, v⟩ (prsV b) ((asc_sp b).2 h.1)
  exact pw_eq Pr.k _ _ h1 ((asc_sp _).2 g1) (fun p => by rw [h2, g3])
theorem filter_wo {b : BT} {k : ByteArray} (h : OK b) : (prsV b).filter (fun p => decide (p.k ≠ k)) = prsV (woV k b) := by
  obtain ⟨g1, g2, g3⟩ := wo_spec k b h.1 h.2.1
  exact pw_eq Pr.k _ _ (((asc_sp b).2 h.1).sublist List.filter_sublist) ((asc_sp _).2 g1) (fun p => by rw [List.mem_filter, g3, decide_eq_true_eq])
theorem split_at {b : BT} {k : ByteArray} (h : OK b) {i : Nat} (h1 : ∀ p ∈ (prsV b).take i, klt p.k k = true) (h2 : ∀ p ∈ (prsV b).drop i, klt p.k k = false) :
    (prsV b).take i = prsV (splitV k b).1 ∧ (prsV b).drop i = prsV (splitV k b).2 := by
  obtain ⟨a1, a2, a3, a4, a5, a6⟩ := split_spec k b h.1 h.2.1
  have hs := (asc_sp b).2 h.1
  have hm : ∀ p, p ∈ prsV b ↔ p ∈ (prsV b).take i ∨ p ∈ (prsV b).drop i := fun p => by
    conv => lhs; rw [← List.take_append_drop i (prsV b)]
    exact List.mem_append
  constructor
  · refine pw_eq Pr.k _ _ (hs.sublist (List.take_sublist _ _)) ((asc_sp _).2 a1) (fun p => ?_)
    rw [a5]
    constructor
    · exact fun hp => ⟨List.mem_of_mem_take hp, h1 p hp⟩
    · rintro ⟨hp, hk⟩
      rcases (hm p).1 hp with h | h
      · exact h
      · rw [h2 p h] at hk; cases hk
  · refine pw_eq Pr.k _ _ (hs.sublist (List.drop_sublist _ _)) ((asc_sp _).2 a3) (fun p => ?_)
    rw [a6]
    constructor
    · exact fun hp => ⟨List.mem_of_mem_drop hp, h2 p hp⟩
    · rintro ⟨hp, hk⟩
      rcases (hm p).1 hp with h | h
      · rw [h1 p h] at hk; cases hk
      · exact h
set_option maxRecDepth 100000
set_option maxHeartbeats 16000000
theorem rmade_any {b : BT} {A : Option Addr} {N c : Nat} {w : World} {l : List Pr} (hl : prsV b = l) (hs : SP b) (hh : HP b) (hN : N ≤ 500) (hc : N ≤ c) (hp : Prs w A N l) :
    Calls Try.prog 62 #[.slice A N c] w (Res b 0 w) := by
  subst hl
  have HPX := Lib.hid hp; have HS := Lib.hid hs; have HH := Lib.hid hh; clear hp hs hh
  have hg : ¬ ((20000 : Int) < (N : Int)) := by omega
  go_enter Try.func62, Try.ntmps62
  go_wp2_with fail
  refine (rbuild_any b A N c w HS.out HH.out hN hc HPX.out).mono ?_
  rintro e w1 ⟨A1, n1, c1, rfl, hG, hE⟩
  have HG := Lib.hid hG; have HE := Lib.hid hE; clear hG hE
  go_wp2_with fail
  refine bodyPost_ret (v := .tuple #[.slice A1 n1 c1, .int .i64 0]) (by simp [results, Try.results62, go_sem]) rfl ?_
  exact ⟨A1, n1, c1, rfl, HG.out, HE.out⟩
theorem rput_any {b : BT} {A : Option Addr} {n c : Nat} {k v : ByteArray} {w : World} (hb : BAt w b A n) (hs : b.size ≤ 100) (hok : OK b) (hk : k.size ≤ Reach) (hv : v.size ≤ Reach) :
    Calls Try.prog 40 #[.slice A n c, .string k, .string v] w (Res (if lgB k v = true then .leaf else putV k v b) (if lgB k v = true then 4 else 0) w) := by
  obtain ⟨gx, hgx⟩ : ∃ gx, w.heap.size = gx := ⟨_, rfl⟩
  have hbx : Blk (w.alloc (Pr.obj ⟨k, v⟩)) gx (Pr.obj ⟨k, v⟩) := Blk.new w _ hgx.symm
  have hEx : Ext w (w.alloc (Pr.obj ⟨k, v⟩)) := (Ext.refl w).alloc _
  have hwp := with_put (k := k) (v := v) hok
  obtain ⟨p1, p2, -⟩ := put_spec k v b hok.1 hok.2.1
  obtain ⟨l, hl⟩ : ∃ l, prsV b = l := ⟨_, rfl⟩
  have hll : l.length ≤ 100 := by rw [← hl, prs_len]; exact hs
  rw [hl] at hwp
  have hps := put_size k v b
  have hwl : (withV l ⟨k, v⟩).length ≤ 101 := by rw [hwp, prs_len]; omega
  have hwf : ∀ p ∈ l, p.wf := fun p hp => by rw [← hl] at hp; exact BAt.sizes hb p hp
  have hwf2 : ∀ p ∈ withV l ⟨k, v⟩, p.wf := fun p hp => by
    rcases withG_mem _ _ _ hp with rfl | hp
    · exact ⟨hk, hv⟩
    · exact hwf p hp
  obtain ⟨z, hz⟩ : ∃ z, lgB k v = z := ⟨_, rfl⟩
  rw [hz]
  have HB := Lib.hid hb; have HBX := Lib.hid hbx; have HEX := Lib.hid hEx; have HWP := Lib.hid hwp; have HP1 := Lib.hid p1; have HP2 := Lib.hid p2; have HL := Lib.hid hl; have HZ := Lib.hid hz; have HWF := Lib.hid hwf2; have HWL := Lib.hid hwl
  clear hb hbx hEx hwp p1 p2 hl hz hwf hwf2 hps hok hwl
  cases z with
  | true =>
    go_enter Try.func40, Try.ntmps40
    go_wp2_with fail
    refine (rlong_any k v _).mono ?_
    rintro e w1 ⟨rfl, hE⟩
    rw [HZ.out]
    have HE := Lib.hid (HEX.out.trans hE); clear hE
    go_wp2_with fail
    refine bodyPost_ret (v := .tuple #[.slice none 0 0, .int .i64 4]) (by simp [results, Try.results40, go_sem]) rfl ?_
    exact ⟨none, 0, 0, rfl, MapAt.nil _ _, HE.out⟩
  | false =>
    go_enter Try.func40, Try.ntmps40
    go_wp2_with fail
    refine (rlong_any k v _).mono ?_
    rintro e w1 ⟨rfl, hE⟩
    rw [HZ.out]
    have HE := Lib.hid (HEX.out.trans hE); have HBY := Lib.hid (HBX.out.ext hE); clear hE
    go_wp2_with fail
    obtain ⟨T, hT⟩ : ∃ T, T = (fun wx => Ext w1 wx) := ⟨_, rfl⟩
    have hTs : Stab T := by rw [hT]; exact Stab.ext _
    refine wp_region_X (T := T) T (by kernel_rfl) (by rw [hT]; exact (Ext.refl w1).drew) (wpX_takes (by kernel_rfl) (fun _ d _ _ _ h => by cases d <;> exact h) hTs (fun _ h => h) (fuel := 7) [0,2] _ _ (by kernel_rfl) ?_)
    iterate 2
      refine wpTk_want rfl (Eq.refl true) ?_
      apply Exists.intro
      refine ⟨fun wx hx => ?_, ?_⟩
      · rw [hT] at hx
        have hbb := HBY.out.ext hx
        have d0 := hbb.cell 0; have d1 := hbb.cell 1
        simp only [List.getElem?_toArray, List.getElem?_cons_zero, List.getElem?_cons_succ] at d0 d1
        clear hx hbb
        go_simp
        with_reducible exact gives_ok _ _ _
      simp only [Act.put, List.setIfInBounds_toArray, List.set_cons_zero, List.set_cons_succ]
    refine wpTk_nil ?_
    refine wpX_one 1 (by kernel_rfl) rfl rfl (fun wx hx K hK => ?_)
    have hx1 := hx
    rw [hT] at hx1
    go_simp
    refine (rlist_is (l := l) HL.out (HB.out.ext (HE.out.trans hx1)) (by omega)).mono ?_
    rintro e wy ⟨A1, c1, rfl, hP, -, hE⟩
    refine hK _ _ ⟨fun wz => T wz ∧ Prs wz A1 l.length l, hTs.and (fun _ _ e h => Prs.ext h e), (fun _ h => h.1), ⟨hTs _ _ hE hx, hP⟩, ?_⟩
    clear hK K hx hx1 hE hP wx wy
    refine wpX_one 3 (by kernel_rfl) rfl rfl (fun wx hx K hK => ?_)
    go_simp
    refine (rwith_any (l := l) (xk := k) (xv := v) hx.2 (by omega)).mono ?_
    rintro e wy ⟨hE, v2, rfl, ho⟩
    obtain ⟨A2, c2, rfl, hc2, hP⟩ := ownP_prs ho HWF.out
    refine hK _ _ ⟨fun wz => T wz ∧ Prs wz A2 (withV l ⟨k, v⟩).length (withV l ⟨k, v⟩), hTs.and (fun _ _ e h => Prs.ext h e), (fun _ h => h.1), ⟨hTs _ _ hE hx.1, hP⟩, ?_⟩
    clear hK K hx hE hP ho wx wy
    refine wpX_one 4 (by kernel_rfl) rfl rfl (fun wx hx K hK => ?_)
    go_simp
    refine (rmade_any (b := putV k v b) HWP.out.symm HP1.out HP2.out (by have := HWL.out; omega) hc2 hx.2).mono ?_
    rintro e wy ⟨A3, n3, c3, rfl, hG, hE⟩
    refine hK _ _ ⟨fun wz => T wz ∧ BAt wz (putV k v b) A3 n3, hTs.and (fun _ _ e h => MapAt.ext h e), (fun _ h => h.1), ⟨hTs _ _ hE hx.1, hG⟩, ?_⟩
    clear hK K hx hE hG wx wy
    refine wpX_takes (by kernel_rfl) (fun _ d _ _ _ h => by cases d <;> exact h) (hTs.and (fun _ _ e h => MapAt.ext h e)) (fun _ h => h.1) (fuel := 0) [5,6,7,8] _ _ (by kernel_rfl) ?_
    iterate 4
      refine wpTk_want rfl (Eq.refl true) ?_
      apply Exists.intro
      refine ⟨fun wx hx => ?_, ?_⟩
      · clear hx
        go_simp
        with_reducible exact gives_ok _ _ _
      simp only [Act.put, List.setIfInBounds_toArray, List.set_cons_zero, List.set_cons_succ]
    refine wpTk_nil ?_
    refine wpX_done (by kernel_rfl) (fun wz hz => ?_) _
    have hz1 := hz.1
    rw [hT] at hz1
    have HZ1 := Lib.hid (HE.out.trans hz1); have HZ2 := Lib.hid hz.2; clear hz hz1 hT hTs
    go_wp2_with fail
    refine bodyPost_ret (v := .tuple #[.slice A3 n3 c3, .int .i64 0]) (by simp [results, Try.results40, go_sem]) rfl ?_
    exact ⟨A3, n3, c3, rfl, HZ2.out, HZ1.out⟩
theorem filt_take {l : List Pr} {k : ByteArray} {i : Nat} {p : Pr} (h : l[i]? = some p) : (l.take (i + 1)).filter (fun p => decide (p.k ≠ k)) = (l.take i).filter (fun p => decide (p.k ≠ k)) ++ (if p.k = k then [] else [p]) := by
  rw [List.take_add_one, h, List.filter_append]
  by_cases e : p.k = k
  · simp [e]
  · simp [e]
theorem rdelete_any {b : BT} {A : Option Addr} {n c : Nat} {k : ByteArray} {w : World} (hb : BAt w b A n) (hs : b.size ≤ 100) (hok : OK b) :
    Calls Try.prog 41 #[.slice A n c, .string k] w (Res (if findV k b = none then .leaf else woV k b) (if findV k b = none then 7 else 0) w) := by
  obtain ⟨inf, i1, i2, i3, i4⟩ := info_of infoP
  have I1 := Lib.hid i1; have I2 := Lib.hid i2; have I3 := Lib.hid i3; have I4 := Lib.hid i4; clear i1 i2 i3 i4
  have hfw := filter_wo (k := k) hok
  obtain ⟨p1, p2, -⟩ := wo_spec k b hok.1 hok.2.1
  obtain ⟨l, hl⟩ : ∃ l, prsV b = l := ⟨_, rfl⟩
  have hll : l.length ≤ 100 := by rw [← hl, prs_len]; exact hs
  have hwf : ∀ p ∈ l, p.wf := fun p hp => by rw [← hl] at hp; exact BAt.sizes hb p hp
  rw [hl] at hfw
  obtain ⟨f, hf⟩ : ∃ f, findV k b = f := ⟨_, rfl⟩
  rw [hf]
  have HB := Lib.hid hb; have HOK := Lib.hid hok; have HFW := Lib.hid hfw; have HP1 := Lib.hid p1; have HP2 := Lib.hid p2; have HL := Lib.hid hl; have HF := Lib.hid hf; have HWF := Lib.hid hwf
  clear hb hok hfw p1 p2 hl hf hwf
  cases f with
  | none =>
    go_enter Try.func41, Try.ntmps41
    go_wp2_with fail
    refine (rget_any (b := b) (A := A) (n := n) (c := c) (k := k) (w := w) HB.out (by omega) HOK.out.1).mono ?_
    rintro e w1 ⟨rfl, hE⟩
    rw [HF.out]
    have HE := Lib.hid hE; clear hE
    go_wp2_with fail
    refine bodyPost_ret (v := .tuple #[.slice none 0 0, .int .i64 7]) (by simp [results, Try.results41, go_sem]) rfl ?_
    exact ⟨none, 0, 0, rfl, MapAt.nil _ _, HE.out⟩
  | some u =>
    go_enter Try.func41, Try.ntmps41
    go_wp2_with fail
    refine (rget_any (b := b) (A := A) (n := n) (c := c) (k := k) (w := w) HB.out (by omega) HOK.out.1).mono ?_
    rintro e w1 ⟨rfl, hE⟩
    rw [HF.out]
    have HE := Lib.hid hE; clear hE
    go_wp2_with fail
    refine (rlist_is (l := l) HL.out (HB.out.ext HE.out) (by omega)).mono ?_
    rintro e w2 ⟨A1, c1, rfl, hP, -, hE⟩
    have HE2 := Lib.hid (HE.out.trans hE); have HPX := Lib.hid hP; clear hE hP
    have hown := own_new2 w2 34
    have hEw : Ext w2 (w2.alloc (.cells #[] 34)) := (Ext.refl w2).alloc _
    have HOW := Lib.hid hown; have HEW := Lib.hid hEw; clear hown hEw
    go_wp2_with fail
    go_loopw [9, 10] (fun v9 vi wr => ∃ i : Nat, vi = .int .i64 i ∧ i ≤ l.length ∧ Ext w2 wr ∧ wr.ownsRow w2.heap.size 34 2 v9 ((l.take i).filter (fun p => decide (p.k ≠ k))).length (((l.take i).filter (fun p => decide (p.k ≠ k))).flatMap Pr.cells)) (fun _ vi _ => l.length - (intOf vi).toNat)
    case atStart => exact ⟨0, rfl, Nat.zero_le _, HEW.out, HOW.out⟩
    case round =>
      obtain ⟨i, rfl, hi, hE, ho⟩ := hrel
      have HER := Lib.hid hE; have HO := Lib.hid ho; clear hE ho
      by_cases hiN : i = l.length
      · have hnl : ¬ ((i : Int) < (l.length : Int)) := by omega
        have ho := HO.out
        rw [List.take_of_length_le (by omega), HFW.out] at ho
        have hwf2 : ∀ p ∈ prsV (woV k b), p.wf := fun p hp => by
          rw [← HFW.out] at hp
          exact HWF.out p (List.mem_filter.1 hp).1
        obtain ⟨A2, c2, hv2, hc2, hP⟩ := ownP_prs ho hwf2
        have hsz : (prsV (woV k b)).length ≤ 100 := by rw [prs_len]; have := wo_size k b; omega
        have HP3 := Lib.hid hP; have HSZ := Lib.hid hsz; have HC2 := Lib.hid hc2; clear ho hwf2 hP hsz hc2
        subst hv2
        go_wp2_with fail
        refine (rbuild_any (woV k b) A2 _ c2 _ HP1.out HP2.out (by have := HSZ.out; omega) HC2.out HP3.out).mono ?_
        rintro e w5 ⟨A5, n5, c5, rfl, hG, hE⟩
        have HG := Lib.hid hG; have HE5 := Lib.hid ((HE2.out.trans HER.out).trans hE); clear hG hE
        go_wp2_with fail
        refine bodyPost_ret (v := .tuple #[.slice A5 n5 c5, .int .i64 0]) (by simp [results, Try.results41, go_sem]) rfl ?_
        exact ⟨A5, n5, c5, rfl, HG.out, HE5.out⟩
      · have hlt : ((i : Int) < (l.length : Int)) := by omega
        obtain ⟨b1, off1, y, rfl, hb1, hy, hwy, e0, e1⟩ := (HPX.out.ext HER.out).get (j := i) (by omega)
        obtain ⟨yk, yv⟩ := y
        dsimp only at e0 e1
        have hft := filt_take (k := k) hy
        dsimp only at hft
        have hfl : ((l.take i).filter (fun p => decide (p.k ≠ k))).length ≤ i := by
          have := List.length_filter_le (fun p : Pr => decide (p.k ≠ k)) (l.take i)
          rw [List.length_take] at this; omega
        have HFL := Lib.hid hfl; clear hfl hy hwy
        by_cases hk : yk = k
        · rw [if_pos hk, List.append_nil] at hft
          obtain rfl := hk.symm
          have HFT := Lib.hid hft; clear hft
          go_wp2_with fail
          go_roundw
          case rel => exact ⟨i + 1, by go_num, by omega, HER.out, by rw [HFT.out]; exact HO.out⟩
          case measure => simp [intOf]; omega
        · rw [if_neg hk] at hft
          have q1 := ne_list hk
          have HFT := Lib.hid hft; clear hft hk
          go_wp2_with (at_builtin; refine wpList_append_size2 rfl (.tmp 35) (.tmp 40) 31 rfl w2.heap.size 34 inf _ 2 32 underP I1.out I2.out I3.out I4.out rfl (by decide) u9 ((l.take i).filter (fun p => decide (p.k ≠ k))).length (((l.take i).filter (fun p => decide (p.k ≠ k))).flatMap Pr.cells) (some ⟨wr.heap.size, 0, none⟩) 1 1 [.string yk, .string yv] rfl (by simp [Act.eval]) rfl (by simp [Value.oneCell']) (by have := HFL.out; simp only [maxLen]; omega) (by have := HFL.out; omega) (own_stab3 ((Ext.refl wr).alloc _) HO.out) (Cells.new wr _ [_, _] rfl) (by have := HER.out.size; simp; omega) ?_; intro v9 w9 hown9 hg9 hb9; have HO9 := Lib.hid hown9; have HG9 := Lib.hid hg9; clear hown9 hg9 hb9)
          have HE9 := Lib.hid ((HER.out.alloc (Pr.obj ⟨yk, yv⟩)).own3 (own_stab3 ((Ext.refl wr).alloc _) HO.out) HG9.out)
          go_roundw
          case rel => exact ⟨i + 1, by go_num, by omega, HE9.out, by rw [HFT.out, List.length_append, List.flatMap_append]; exact HO9.out⟩
          case measure => simp [intOf]; omega
end Go.Proofs.Ytbjniaihkllmdaa

/- Contract: the reference's build, made. -/
import Derived.Test.YtbjniaihkllmdaaTrWith
import Derived.Test.YtbjniaihkllmdaaTrLawP
import Derived.Test.YtbjniaihkllmdaaTrProg
namespace Go.Proofs.Ytbjniaihkllmdaa
open Go.RowKit

theorem Prs.take {w : World} {A : Option Addr} {n : Nat} {l : List Pr} (h : Prs w A n l) {k : Nat} (hk : k ≤ n) : Prs w A k (l.take k) := by
  obtain ⟨h1, h2, h3⟩ := h
  refine ⟨by rw [List.length_take]; omega, fun p hp => h2 p (List.mem_of_mem_take hp), ?_⟩
  rcases h3 with h3 | ⟨b, off, rfl, h3⟩
  · left
    have : l = [] := by
      cases l with
      | nil => rfl
      | cons x l => simp [Pr.cells] at h3
    subst this; simp
  · refine .inr ⟨b, off, rfl, fun j u hj => h3 j u ?_⟩
    rw [← List.take_append_drop k l, List.flatMap_append]
    have hlt := (List.getElem?_eq_some_iff.1 hj).1
    rw [List.getElem?_append_left hlt]; exact hj
theorem Prs.drop {w : World} {b off : Nat} {n c : Nat} {l : List Pr} (h : Prs w (some ⟨b, off, none⟩) n l) {k : Nat} (hk : k ≤ n) (hc : n ≤ c) : Prs w (if c = k then some ⟨b, off, none⟩ else some ⟨b, off + k * 2, none⟩) (n - k) (l.drop k) := by
  obtain ⟨h1, h2, h3⟩ := h
  refine ⟨by rw [List.length_drop, h1], fun p hp => h2 p (List.mem_of_mem_drop hp), ?_⟩
  by_cases hn : n = k
  · left
    rw [List.drop_eq_nil_of_le (by omega)]; rfl
  · rw [if_neg (by omega)]
    rcases h3 with h3 | ⟨b', off', e, h3⟩
    · left
      have : l = [] := by
        cases l with
        | nil => rfl
        | cons x l => simp [Pr.cells] at h3
      subst this; simp
    · cases e
      refine .inr ⟨b, off + k * 2, rfl, fun j u hj => ?_⟩
      have := h3 (k * 2 + j) u (by
        rw [← List.take_append_drop k l, List.flatMap_append]
        have hlt : ((l.take k).flatMap Pr.cells).length = k * 2 := by rw [flat_len pr_cells_len, List.length_take, Nat.min_eq_left (by omega)]
        rw [List.getElem?_append_right (by omega), hlt, Nat.add_sub_cancel_left]; exact hj)
      rwa [← Nat.add_assoc] at this
/-- The place of the root. -/
theorem root_best {lb rb : BT} {k v : ByteArray} (hh : HP (.node lb k v rb)) {j : Nat} {p : Pr} (hp : (prsV (.node lb k v rb))[j]? = some p)
    (hb : ∀ m q, (prsV (.node lb k v rb))[m]? = some q → m ≠ j → ahB p.k q.k = true) : j = (prsV lb).length ∧ p = ⟨k, v⟩ := by
  have hr : (prsV (.node lb k v rb))[(prsV lb).length]? = some ⟨k, v⟩ := by
    rw [prsV, List.append_assoc, List.getElem?_append_right (Nat.le_refl _), Nat.sub_self]; rfl
  by_cases h : (prsV lb).length = j
  · subst h
    rw [hr] at hp
    exact ⟨rfl, (Option.some.inj hp).symm⟩
  · exfalso
    have h1 := hb _ _ hr h
    have hm := List.mem_of_getElem? hp
    rcases mem_node.1 hm with hm | rfl | hm
    · have := ah_asymm h1; rw [hh.1 p hm] at this; cases this
    · rw [ah_irrefl] at h1; cases h1
    · have := ah_asymm h1; rw [hh.2.1 p hm] at this; cases this

set_option maxRecDepth 100000 in
set_option maxHeartbeats 16000000 in
theorem rbuild_any : ∀ (b : BT) (A : Option Addr) (N c : Nat) (w : World), SP b → HP b → N ≤ 500 → N ≤ c → Prs w A N (prsV b) → Calls Try.prog 61 #[.slice A N c] w (Got b w)
  | .leaf, A, N, c, w, _, _, _, _, hp => by
    obtain rfl : 0 = N := hp.1
    clear hp
    go_enter Try.func61, Try.ntmps61
    go_wp2_with fail
    go_ret
    exact ⟨none, 0, 0, rfl, MapAt.nil _ _, Ext.refl _⟩
  | .node lb k v rb, A, N, c, w, hs, hh, hN, hc, hp => by
    have IHL := rbuild_any lb
    have IHR := rbuild_any rb
    have hlen := hp.1
    have hroot := fun (j : Nat) (p : Pr) => root_best hh (j := j) (p := p)
    have hkd := (asc_sp (.node lb k v rb)).2 hs
    have hsl := hs.2.2.1; have hsr := hs.2.2.2; have hhl := hh.2.2.1; have hhr := hh.2.2.2
    have htk : (prsV (.node lb k v rb)).take (prsV lb).length = prsV lb := by rw [prsV, List.append_assoc, List.take_left]
    have hdr : (prsV (.node lb k v rb)).drop ((prsV lb).length + 1) = prsV rb := by
      rw [prsV, show (prsV lb).length + 1 = (prsV lb ++ [(⟨k, v⟩ : Pr)]).length by simp, List.drop_left]
    have hll : (prsV lb).length < N := by
      rw [← hlen, prsV]; simp
    obtain ⟨l, hl⟩ : ∃ l, prsV (.node lb k v rb) = l := ⟨_, rfl⟩
    rw [hl] at hp hlen hroot hkd htk hdr
    obtain ⟨P, hP⟩ : ∃ P, (prsV lb).length = P := ⟨_, rfl⟩
    rw [hP] at hroot htk hdr hll
    have hne0 : ((N : Int) == 0) = false := by simp; omega
    have HPX := Lib.hid hp; have HLEN := Lib.hid hlen; have HROOT := Lib.hid hroot; have HKD := Lib.hid hkd; have HTK := Lib.hid htk; have HDR := Lib.hid hdr; have HIL := Lib.hid IHL; have HIR := Lib.hid IHR; have HSL := Lib.hid hsl; have HSR := Lib.hid hsr; have HHL := Lib.hid hhl; have HHR := Lib.hid hhr
    clear hp hlen hroot hkd htk hdr IHL IHR hsl hsr hhl hhr hs hh hl hP
    go_enter Try.func61, Try.ntmps61
    go_wp2_with fail
    go_loopw [3, 4] (fun vt vi wr => ∃ (i j : Nat) (p : Pr), vi = .int .i64 i ∧ vt = .int .i64 j ∧ 1 ≤ i ∧ i ≤ N ∧ j < i ∧ Ext w wr ∧ l[j]? = some p ∧ ∀ m q, m < i → l[m]? = some q → m ≠ j → ahB p.k q.k = true) (fun _ vi _ => N - (intOf vi).toNat)
    case atStart =>
      obtain ⟨p, hp⟩ : ∃ p, l[0]? = some p := ⟨l[0]'(by have := HLEN.out; omega), List.getElem?_eq_getElem _⟩
      exact ⟨1, 0, p, rfl, rfl, Nat.le_refl _, by omega, by omega, Ext.refl _, hp, fun m q hm hq hn => by omega⟩
    case round =>
      obtain ⟨i, j, p, rfl, rfl, h1i, hi, hji, hE, hpj, hbest⟩ := hrel
      have HER := Lib.hid hE; have HBEST := Lib.hid hbest; have HPJ := Lib.hid hpj; clear hE hbest hpj
      obtain ⟨b1, off1, y, rfl, hb1, hy, hwy, e0, e1⟩ := (HPX.out.ext HER.out).get (j := j) (by omega)
      obtain rfl : y = p := by have := HPJ.out; rw [hy] at this; exact Option.some.inj this
      obtain ⟨yk, yv⟩ := y
      dsimp only at e0 e1
      have hlj : ((j : Int) < (N : Int)) := by omega
      have HWY := Lib.hid (show yk.size ≤ Reach from hwy.1)
      have HWV := Lib.hid (show yv.size ≤ Reach from hwy.2)
      clear hy hwy
      by_cases hiN : i = N
      · have hnl : ¬ ((i : Int) < (N : Int)) := by omega
        obtain ⟨rfl, hpe⟩ := HROOT.out j ⟨yk, yv⟩ HPJ.out (fun m q hq hn => HBEST.out m q (by
          rcases Nat.lt_or_ge m i with h | h
          · exact h
          · rw [List.getElem?_eq_none (by have := HLEN.out; omega)] at hq; cases hq) hq hn)
        obtain ⟨rfl, rfl⟩ : yk = k ∧ yv = v := by simpa using hpe
        clear hpe
        have hpl := HPX.out.take (k := j) (by omega)
        have hpr := HPX.out.drop (k := j + 1) (by omega) hc
        rw [HTK.out] at hpl
        rw [HDR.out] at hpr
        obtain ⟨A2, hA2⟩ : ∃ A2 : Option Addr, (if c = j + 1 then some ⟨b1, off1, none⟩ else some ⟨b1, off1 + (j + 1) * 2, none⟩) = A2 := ⟨_, rfl⟩
        rw [hA2] at hpr
        have HPLL := Lib.hid hpl; have HPRR := Lib.hid hpr; have HA2 := Lib.hid hA2; clear hpl hpr hA2
        have i0 : IntKind.i64.wrap ((j : Int) + 1) = (j : Int) + 1 := wrap_in (by omega) (by omega)
        have i1 : ((j : Int) + 1).toNat = j + 1 := by omega
        have i2 : (0 : Int) ≤ (j : Int) + 1 := by omega
        have i3 : (j : Int) + 1 ≤ (N : Int) := by omega
        have i4 : (N : Int) ≤ (c : Int) := by omega
        have i5 : (j : Int) ≤ (c : Int) := by omega
        go_wp2_with fail
        obtain ⟨T, hT⟩ : ∃ T, T = (fun wx => Ext wr wx) := ⟨_, rfl⟩
        have hTs : Stab T := by rw [hT]; exact Stab.ext _
        refine wp_region_X (T := T) T (by kernel_rfl) (by rw [hT]; exact (Ext.refl wr).drew) (wpX_takes (by kernel_rfl) (fun _ d _ _ _ h => by cases d <;> exact h) hTs (fun _ h => h) (fuel := 5) [0,1,2,3,4,5,6,7,8,9,10,11,12,14,15,16,17] _ _ (by kernel_rfl) ?_)
        iterate 16
          refine wpTk_want rfl (Eq.refl true) ?_
          apply Exists.intro
          refine ⟨fun wx hx => ?_, ?_⟩
          · rw [hT] at hx
            have d0 := hx.cell e0; have d1 := hx.cell e1
            clear hx
            go_simp
            with_reducible exact gives_ok _ _ _
          simp only [Act.put, List.setIfInBounds_toArray, List.set_cons_zero, List.set_cons_succ]
        refine wpTk_want rfl (Eq.refl true) ⟨.slice A2 (N - (j + 1)) (c - (j + 1)), fun wx hx => ?_, ?_⟩
        · clear hx
          go_simp
          rw [HA2.out]
          with_reducible exact gives_ok _ _ _
        simp only [Act.put, List.setIfInBounds_toArray, List.set_cons_zero, List.set_cons_succ]
        refine wpTk_nil ?_
        clear i0 i1 i2 i3 i4 i5 e0 e1 hlj hnl
        refine wpX_one 13 (by kernel_rfl) rfl rfl (fun wx hx K hK => ?_)
        have hx1 := hx
        rw [hT] at hx1
        go_simp
        refine (HIL.out (some ⟨b1, off1, none⟩) j c wx HSL.out HHL.out (by omega) (by omega) (HPLL.out.ext (HER.out.trans hx1))).mono ?_
        rintro e wy ⟨A1, n1, c1, rfl, hG, hE⟩
        refine hK _ _ ⟨fun wz => T wz ∧ BAt wz lb A1 n1, hTs.and (fun _ _ e h => MapAt.ext h e), (fun _ h => h.1), ⟨hTs _ _ hE hx, hG⟩, ?_⟩
        clear hK K hx hx1 hE hG wx wy
        refine wpX_one 18 (by kernel_rfl) rfl rfl (fun wx hx K hK => ?_)
        have hx1 := hx.1
        rw [hT] at hx1
        go_simp
        refine (HIR.out A2 (N - (j + 1)) (c - (j + 1)) wx HSR.out HHR.out (by omega) (by omega) (HPRR.out.ext (HER.out.trans hx1))).mono ?_
        rintro e wy ⟨A3, n3, c3, rfl, hG, hE⟩
        refine hK _ _ ⟨fun wz => T wz ∧ (BAt wz lb A1 n1 ∧ BAt wz rb A3 n3), hTs.and (Stab.and (fun _ _ e h => MapAt.ext h e) (fun _ _ e h => MapAt.ext h e)), (fun _ h => h.1), ⟨hTs _ _ hE hx.1, MapAt.ext hx.2 hE, hG⟩, ?_⟩
        clear hK K hx hx1 hE hG wx wy
        refine wpX_one 19 (by kernel_rfl) rfl rfl (fun wx hx K hK => ?_)
        go_simp
        refine hK _ _ ⟨fun wz => T wz ∧ (BAt wz lb A1 n1 ∧ BAt wz rb A3 n3), hTs.and (Stab.and (fun _ _ e h => MapAt.ext h e) (fun _ _ e h => MapAt.ext h e)), (fun _ h => h.1), hx, ?_⟩
        clear hK K hx wx
        refine wpX_one 20 (by kernel_rfl) rfl rfl (fun wx hx K hK => ?_)
        have hE : Ext wx (wx.alloc (nodeObj yk yv A1 n1 c1 A3 n3 c3)) := (Ext.refl wx).alloc _
        have hnb : BAt (wx.alloc (nodeObj yk yv A1 n1 c1 A3 n3 c3)) (.node lb yk yv rb) (some ⟨wx.heap.size, 0, none⟩) 1 := BAt.mk (Blk.new wx _ rfl) HWY.out HWV.out (MapAt.ext hx.2.1 hE) (MapAt.ext hx.2.2 hE)
        obtain ⟨gg, hgg⟩ : ∃ gg, gg = wx.heap.size := ⟨_, rfl⟩
        rw [← hgg] at hnb
        go_simp
        rw [← hgg]
        refine hK _ _ ⟨fun wz => T wz ∧ BAt wz (.node lb yk yv rb) (some ⟨gg, 0, none⟩) 1, hTs.and (fun _ _ e h => MapAt.ext h e), (fun _ h => h.1), ⟨hTs _ _ hE hx.1, hnb⟩, ?_⟩
        clear hK K hx hE hnb hgg wx
        refine wpX_one 21 (by kernel_rfl) rfl rfl (fun wx hx K hK => ?_)
        go_simp
        refine hK _ _ ⟨fun wz => T wz ∧ BAt wz (.node lb yk yv rb) (some ⟨gg, 0, none⟩) 1, hTs.and (fun _ _ e h => MapAt.ext h e), (fun _ h => h.1), hx, ?_⟩
        clear hK K hx wx
        refine wpX_done (by kernel_rfl) (fun wz hz => ?_) _
        have hz1 := hz.1
        rw [hT] at hz1
        have HZ1 := Lib.hid (HER.out.trans hz1); have HZ2 := Lib.hid hz.2; clear hz hz1 hT hTs
        go_wp2_with fail
        go_ret
        exact ⟨_, _, _, rfl, HZ2.out, HZ1.out⟩
      · have hlt : ((i : Int) < (N : Int)) := by omega
        obtain ⟨b2, off2, z, hAe, hb2, hz, hwz, r0, r1⟩ := (HPX.out.ext HER.out).get (j := i) (by omega)
        cases hAe
        obtain ⟨zk, zv⟩ := z
        dsimp only at r0 r1
        obtain ⟨ah, hah⟩ : ∃ r, ahB zk yk = r := ⟨_, rfl⟩
        have HAH := Lib.hid hah; have HWZ := Lib.hid (show zk.size ≤ Reach from hwz.1); have HZ := Lib.hid hz; clear hah hwz hz
        have i6 : i < N := by omega
        cases ah with
        | true =>
          go_wp2_with fail
          go_quiet (first | (go_at_call 66; with_reducible exact Calls.quiet_of_same (rahead_q HAH.out HWZ.out HWY.out)))
          have hE1 : Ext w (wr.drewN nq) := HER.out.drewN nq
          generalize wr.drewN nq = w1 at hE1 ⊢
          have HE1 := Lib.hid hE1; clear hE1 e0 e1 r0 r1
          go_wp2_with fail
          go_roundw
          case rel =>
            refine ⟨i + 1, i, ⟨zk, zv⟩, by go_num, rfl, by omega, by omega, by omega, HE1.out, HZ.out, fun m q hm hq hn => ?_⟩
            by_cases hmj : m = j
            · subst hmj
              have := HPJ.out; rw [hq] at this
              have := Option.some.inj this
              subst this; exact HAH.out
            · exact ah_trans HAH.out (HBEST.out m q (by omega) hq hmj)
          case measure => simp [intOf]; omega
        | false =>
          go_wp2_with fail
          go_quiet (first | (go_at_call 66; with_reducible exact Calls.quiet_of_same (rahead_q HAH.out HWZ.out HWY.out)))
          have hE1 : Ext w (wr.drewN nq) := HER.out.drewN nq
          generalize wr.drewN nq = w1 at hE1 ⊢
          have HE1 := Lib.hid hE1; clear hE1 e0 e1 r0 r1
          go_wp2_with fail
          go_roundw
          case rel =>
            refine ⟨i + 1, j, ⟨yk, yv⟩, by go_num, rfl, by omega, by omega, by omega, HE1.out, HPJ.out, fun m q hm hq hn => ?_⟩
            by_cases hmi : m = i
            · subst hmi
              have hqz := HZ.out; rw [hq] at hqz
              have := Option.some.inj hqz
              subst this
              rcases ah_tri zk yk with h | h | h
              · rw [HAH.out] at h; cases h
              · exfalso
                have hlt9 : klt yk zk = true := by
                  have hh := HKD.out
                  obtain ⟨hj1, hj2⟩ := List.getElem?_eq_some_iff.1 HPJ.out
                  obtain ⟨hm1, hm2⟩ := List.getElem?_eq_some_iff.1 hq
                  have := (List.pairwise_iff_getElem.1 hh) j m hj1 hm1 (by omega)
                  rw [hj2, hm2] at this; exact this
                rw [h, klt_irrefl] at hlt9; cases hlt9
              · exact h
            · exact HBEST.out m q (by omega) hq hn
          case measure => simp [intOf]; omega
end Go.Proofs.Ytbjniaihkllmdaa

/- The contract of quiltref08.Same for lists that are equal. -/
import Derived.Test.YtilogolnoifigaaEffect
namespace Go.Proofs.Ytilogolnoifigaa
open Go.RowKit

theorem same04_yes {A B : Option Addr} {n m c d : Nat} {xs : List ByteArray} (w : World) (ha : Strs w A n xs) (hb : Strs w B m xs) (hn : n ≤ Reach) (hm : m ≤ Reach) :
    Calls Try.prog 30 #[.slice A n c, .slice B m d] w fun e w' => e = .returned (.bool true) ∧ Ext w w' := by
  have := same04_any A B n m c d xs xs w ha hb hn hm
  simpa using this

set_option maxHeartbeats 2000000 in
theorem same08_yes {s1 s2 : HS} (w : World) (r1 : RHS w s1) (r2 : RHS w s2) (he : s1.xs = s2.xs) :
    Calls Try.prog 22 #[.slice s1.a s1.n s1.c, .slice s2.a s2.n s2.c] w fun e w' => e = .returned (.bool true) ∧ Ext w w' := by
  obtain ⟨A, n, c, hs, xs⟩ := s1
  obtain ⟨B, m, d, gs, ys⟩ := s2
  obtain ⟨hn, hh, hl, hx⟩ := r1
  obtain ⟨hn', gh, gl, gx⟩ := r2
  simp only at hn hh hl hx hn' gh gl gx he
  subst he
  obtain rfl : n = m := by rw [← hl, ← gl]
  unfold Reach at hn
  have HH := Lib.hid hh; have HX := Lib.hid hx; have HL := Lib.hid hl; have GH := Lib.hid gh; have GX := Lib.hid gx; clear hh hx hl gh gx gl hn'
  have h0 : ((n : Int) != (n : Int)) = false := by simp
  go_enter Try.func22, Try.ntmps22
  go_wp2_with fail
  go_loopw [5] (fun i wr => ∃ k : Nat, k ≤ n ∧ i = .int .i64 k ∧ Ext w wr) (fun i _ => n - (intOf i).toNat)
  case atStart => exact ⟨0, Nat.zero_le _, rfl, Ext.refl _⟩
  case round =>
    obtain ⟨k, hk, rfl, hE⟩ := hrel
    have HE := Lib.hid hE; clear hE
    by_cases hlt : k < n
    · obtain ⟨b, off, h, rfl, hb, hx, hxs, hc0, hc1, hc2⟩ := (HH.out.ext HE.out).get hlt
      obtain ⟨b', off', g, rfl, hb', gx, gxs, gc0, gc1, gc2⟩ := (GH.out.ext HE.out).get hlt
      obtain ⟨x, hxx⟩ : ∃ x, xs[k]? = some x := ⟨_, List.getElem?_eq_getElem (by rw [HL.out]; exact hlt)⟩
      have RX := Lib.hid ((HX.out k h x hx hxx).ext HE.out)
      have RY := Lib.hid ((GX.out k g x gx hxx).ext HE.out)
      have hat : (h.at_ != g.at_) = false := by rw [RX.out.2.1, RY.out.2.1]; simp
      clear hx gx hxx hxs gxs
      go_wp2_with fail
      refine wp_region_text (fun wx => Ext wr wx) [0,1,2,3,4,5,6,7,8,9,10,11,12,13,14,15,16,17,18,19,20,21,22,23,24,25,26,27,28,29,30,31,32,33,34,35,36,37,38] (by kernel_rfl) (Stab.ext _) (Ext.refl _).drew (by kernel_rfl) (fun _ d _ _ _ h => by cases d <;> exact h) ?_
      iterate 39
        refine wpTk_want rfl (Eq.refl true) ?_
        apply Exists.intro
        refine ⟨fun wx hx => ?_, ?_⟩
        · have d0 := hx.cell hc0; have d1 := hx.cell hc1; have d2 := hx.cell hc2
          have e0 := hx.cell gc0; have e1 := hx.cell gc1; have e2 := hx.cell gc2
          have HX' := Lib.hid hx; clear hx
          go_simp
          first
            | with_reducible exact gives_ok _ _ _
            | (have r := same04_yes (c := h.oc) (d := g.oc) wx (RX.out.ext HX'.out).2.2.1 (RY.out.ext HX'.out).2.2.1 RX.out.1.1 RY.out.1.1; with_reducible exact gives_call _ _ _ r)
            | (have r := same04_yes (c := h.nc) (d := g.nc) wx (RX.out.ext HX'.out).2.2.2 (RY.out.ext HX'.out).2.2.2 RX.out.1.2 RY.out.1.2; with_reducible exact gives_call _ _ _ r)
        simp only [Act.put, List.setIfInBounds_toArray, List.set_cons_zero, List.set_cons_succ]
      refine wpTk_nil ?_
      intro wx hE2
      have HE2 := Lib.hid (HE.out.trans hE2); clear hE2
      go_wp2_with fail
      go_roundw
      case rel => exact ⟨k + 1, by omega, by go_num, HE2.out⟩
      case measure => simp [intOf]; omega
    · go_wp2_with fail
      go_ret
      exact ⟨rfl, HE.out⟩
end Go.Proofs.Ytilogolnoifigaa

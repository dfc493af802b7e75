/- Contracts: the reference's Same, SamePairs, SameChanges; the law's same. -/
import Derived.Test.YtbjniaihkllmdaaTrDiff
import Derived.Deep.Quiet
namespace Go.Proofs.Ytbjniaihkllmdaa
open Go.RowKit

def sameB : BT → BT → Bool
  | .leaf, .leaf => true
  | .node l k v r, .node l' k' v' r' => decide (k = k') && decide (v = v') && sameB l l' && sameB r r'
  | _, _ => false
theorem sameB_iff : ∀ a b : BT, sameB a b = true ↔ a = b
  | .leaf, .leaf => by simp [sameB]
  | .leaf, .node _ _ _ _ => by simp [sameB]
  | .node _ _ _ _, .leaf => by simp [sameB]
  | .node l k v r, .node l' k' v' r' => by
    simp only [sameB, Bool.and_eq_true, decide_eq_true_eq, sameB_iff l l', sameB_iff r r', BT.node.injEq]
    constructor
    · rintro ⟨⟨⟨h1, h2⟩, h3⟩, h4⟩; exact ⟨h3, h1, h2, h4⟩
    · rintro ⟨h3, h1, h2, h4⟩; exact ⟨⟨⟨h1, h2⟩, h3⟩, h4⟩
theorem q_of {P : Program} {f : FuncId} {args : Array Value} {w : World} {n : Nat} {v u : Value} (hv : v = u)
    (h : Calls P f args (w.drewN n) fun e w' => e = .returned v ∧ ∃ m, w' = (w.drewN n).drewN m) : Calls P f args (w.drewN n) fun e w'' => e = .returned u ∧ ∃ m, w'' = w.drewN m := by
  subst hv; exact Calls.quiet_of h

set_option maxRecDepth 100000
set_option maxHeartbeats 8000000
theorem rsame_any : ∀ (a b : BT) (A : Option Addr) (n c : Nat) (B : Option Addr) (m d : Nat) (w : World), BAt w a A n → BAt w b B m →
    Calls Try.prog 25 #[.slice A n c, .slice B m d] w fun e w' => e = .returned (.bool (sameB a b)) ∧ ∃ q, w' = w.drewN q
  | .leaf, .leaf, A, n, c, B, m, d, w, ha, hb => by
    obtain rfl := ha.leaf
    obtain rfl := hb.leaf
    clear ha hb
    go_enter Try.func25, Try.ntmps25
    go_wp2_with fail
    go_quiet (fail)
    go_wp2_with fail
    go_ret
    exact ⟨rfl, _, rfl⟩
  | .leaf, .node _ _ _ _, A, n, c, B, m, d, w, ha, hb => by
    obtain rfl := ha.leaf
    obtain ⟨b, off, Al, nl, cl, Ar, nr, cr, rfl, rfl, _⟩ := hb.node
    clear ha hb
    go_enter Try.func25, Try.ntmps25
    go_wp2_with fail
    go_ret
    exact ⟨rfl, 0, rfl⟩
  | .node _ _ _ _, .leaf, A, n, c, B, m, d, w, ha, hb => by
    obtain rfl := hb.leaf
    obtain ⟨b, off, Al, nl, cl, Ar, nr, cr, rfl, rfl, _⟩ := ha.node
    clear ha hb
    go_enter Try.func25, Try.ntmps25
    go_wp2_with fail
    go_ret
    exact ⟨rfl, 0, rfl⟩
  | .node l k v r, .node l' k' v' r', A, n, c, B, m, d, w, ha, hb => by
    have IHL := rsame_any l l'
    have IHR := rsame_any r r'
    obtain ⟨b, off, Al, nl, cl, Ar, nr, cr, rfl, rfl, hb1, -, c0, c1, c2, c3, hl, hr⟩ := ha.node
    obtain ⟨b', off', Al', nl', cl', Ar', nr', cr', rfl, rfl, hb2, -, d0, d1, d2, d3, hl', hr'⟩ := hb.node
    have hv : sameB (.node l k v r) (.node l' k' v' r') = (decide (k = k') && decide (v = v') && sameB l l' && sameB r r') := rfl
    have il : ∀ n, Calls Try.prog 25 #[.slice Al nl cl, .slice Al' nl' cl'] (w.drewN n) fun e w' => e = .returned (.bool (sameB l l')) ∧ ∃ q, w' = (w.drewN n).drewN q := fun n =>
      IHL _ _ _ _ _ _ _ (MapAt.ext hl ((Ext.refl w).drewN n)) (MapAt.ext hl' ((Ext.refl w).drewN n))
    have ir : ∀ n, Calls Try.prog 25 #[.slice Ar nr cr, .slice Ar' nr' cr'] (w.drewN n) fun e w' => e = .returned (.bool (sameB r r')) ∧ ∃ q, w' = (w.drewN n).drewN q := fun n =>
      IHR _ _ _ _ _ _ _ (MapAt.ext hr ((Ext.refl w).drewN n)) (MapAt.ext hr' ((Ext.refl w).drewN n))
    have HV := Lib.hid hv; have IL := Lib.hid il; have IR := Lib.hid ir
    clear hv il ir IHL IHR hl hr hl' hr' ha hb
    by_cases hk : k = k'
    · subst hk
      by_cases hvv : v = v'
      · subst hvv
        obtain ⟨zl, hzl⟩ : ∃ z, sameB l l' = z := ⟨_, rfl⟩
        obtain ⟨zr, hzr⟩ : ∃ z, sameB r r' = z := ⟨_, rfl⟩
        have HZL := Lib.hid hzl; have HZR := Lib.hid hzr; clear hzl hzr
        cases zl with
        | true =>
          go_enter Try.func25, Try.ntmps25
          go_wp2_with fail
          go_quiet (first | (go_at_call 25; with_reducible exact q_of (by rw [HZL.out]) (IL.out _)) | (go_at_call 25; with_reducible exact q_of (by rw [HZR.out]) (IR.out _)))
          go_wp2_with fail
          go_ret
          exact ⟨ret_bool (by rw [HV.out, HZL.out, HZR.out]; simp), _, rfl⟩
        | false =>
          go_enter Try.func25, Try.ntmps25
          go_wp2_with fail
          go_quiet (first | (go_at_call 25; with_reducible exact q_of (by rw [HZL.out]) (IL.out _)))
          go_wp2_with fail
          go_ret
          exact ⟨ret_bool (by rw [HV.out, HZL.out]; simp), _, rfl⟩
      · have q1 := ne_list hvv
        have hvf : sameB (.node l k v r) (.node l' k v' r') = false := by rw [HV.out]; simp [hvv]
        have HVF := Lib.hid hvf; clear hvf hvv
        go_enter Try.func25, Try.ntmps25
        go_wp2_with fail
        go_quiet (fail)
        go_wp2_with fail
        go_ret
        exact ⟨ret_bool (by rw [HVF.out]), _, rfl⟩
    · have q1 := ne_list hk
      have hvf : sameB (.node l k v r) (.node l' k' v' r') = false := by rw [HV.out]; simp [hk]
      have HVF := Lib.hid hvf; clear hvf hk
      go_enter Try.func25, Try.ntmps25
      go_wp2_with fail
      go_quiet (fail)
      go_wp2_with fail
      go_ret
      exact ⟨ret_bool (by rw [HVF.out]), _, rfl⟩
theorem rsame_is {a b : BT} {A : Option Addr} {n c : Nat} {B : Option Addr} {m d : Nat} {w : World} {r : Bool} (hr : sameB a b = r) (ha : BAt w a A n) (hb : BAt w b B m) :
    Calls Try.prog 25 #[.slice A n c, .slice B m d] w fun e w' => e = .returned (.bool r) ∧ Ext w w' := by
  subst hr
  exact (rsame_any a b A n c B m d w ha hb).mono (by rintro e w' ⟨rfl, q, rfl⟩; exact ⟨rfl, (Ext.refl w).drewN q⟩)
/-- The law's same, of a valid map. -/
theorem lsame_is {a b : BT} {A : Option Addr} {n c : Nat} {B : Option Addr} {m d : Nat} {w : World} {r : Bool} (hr : sameB a b = r) (ha : BAt w a A n) (hb : BAt w b B m) (hs : a.size ≤ 30) (h0 : chkV a = 0) :
    Calls Try.prog 21 #[.slice A n c, .slice B m d] w fun e w' => e = .returned (.bool r) ∧ Ext w w' := by
  have hvl : valB a.mt = true := by unfold valB; rw [BT.mt_size, chk_mt, h0]; simp [hs]
  have HV := Lib.hid hvl; have HR := Lib.hid hr; have HA := Lib.hid ha; have HB := Lib.hid hb; clear hvl hr ha hb
  go_enter Try.func21, Try.ntmps21
  go_wp2_with fail
  refine (valid_is HV.out HA.out).mono ?_
  rintro e w1 ⟨rfl, hE⟩
  have HE := Lib.hid hE; clear hE
  go_wp2_with fail
  refine (rsame_is HR.out (HA.out.ext HE.out) (HB.out.ext HE.out)).mono ?_
  rintro e w2 ⟨rfl, hE⟩
  have HE2 := Lib.hid (HE.out.trans hE); clear hE
  go_wp2_with fail
  go_ret
  exact ⟨rfl, HE2.out⟩
end Go.Proofs.Ytbjniaihkllmdaa

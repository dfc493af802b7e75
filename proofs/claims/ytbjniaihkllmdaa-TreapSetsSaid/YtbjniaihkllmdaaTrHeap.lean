/- Contracts: the reference's heap, Check, Great, Valid. -/
import Derived.Test.YtbjniaihkllmdaaTrPair
namespace Go.Proofs.Ytbjniaihkllmdaa
open Go.RowKit

def topB (k : ByteArray) : BT → Bool
  | .leaf => true
  | .node _ k' _ _ => ahB k k'
def heapB : BT → Bool
  | .leaf => true
  | .node l k _ r => topB k l && topB k r && heapB l && heapB r
theorem b4 {a b c d : Bool} (ha : a = true) (hb : b = true) (hc : c = true) : d = (a && b && c && d) := by subst ha; subst hb; subst hc; rfl
theorem b4f {a b c d : Bool} (hc : c = false) : false = (a && b && c && d) := by subst hc; simp
theorem b4x {a b c d : Bool} (ha : a = false) : false = (a && b && c && d) := by subst ha; rfl
theorem b4y {a b c d : Bool} (hb : b = false) : false = (a && b && c && d) := by subst hb; simp
theorem rahead_q {a b : ByteArray} {r : Bool} {w : World} (h : ahB a b = r) (ha : a.size ≤ Reach) (hb : b.size ≤ Reach) :
    Calls Try.prog 66 #[.string a, .string b] w fun e w' => e = .returned (.bool r) ∧ w' = w := (rahead_is h ha hb).mono (by rintro e w' ⟨rfl, rfl⟩; exact ⟨rfl, rfl⟩)

set_option maxRecDepth 100000 in
set_option maxHeartbeats 16000000 in
theorem heap_any : ∀ (t : BT) (A : Option Addr) (n c : Nat) (w : World), BAt w t A n → Calls Try.prog 52 #[.slice A n c] w fun e w' => e = .returned (.bool (heapB t)) ∧ Ext w w'
  | .leaf, A, n, c, w, hm => by
    obtain rfl := hm.leaf
    clear hm
    go_enter Try.func52, Try.ntmps52
    go_wp2_with fail
    go_ret
    exact ⟨rfl, Ext.refl _⟩
  | .node l k v r, A, n, c, w, hm => by
    have IHL := heap_any l
    have IHR := heap_any r
    obtain ⟨b, off, Al, nl, cl, Ar, nr, cr, rfl, rfl, hb, hks, c0, c1, c2, c3, hl, hr⟩ := hm.node
    have hv : heapB (.node l k v r) = (topB k l && topB k r && heapB l && heapB r) := rfl
    have HL := Lib.hid hl; have HR := Lib.hid hr; have HK0 := Lib.hid hks; have HIL := Lib.hid IHL; have HIR := Lib.hid IHR; have HV := Lib.hid hv
    clear IHL IHR hks hv hm
    cases l with
    | leaf =>
      obtain rfl := HL.out.leaf
      cases r with
      | leaf =>
        obtain rfl := HR.out.leaf
        go_enter Try.func52, Try.ntmps52
        go_wp2_with fail
        go_quiet (fail)
        have hE1 : Ext w (w.drewN nq) := (Ext.refl w).drewN _
        generalize w.drewN nq = w1 at hE1 ⊢
        have fc0 := hE1.cell c0
        clear c0 c1 c2 c3
        have hhb := Nat.lt_of_lt_of_le hb hE1.size
        have HE1 := Lib.hid hE1; clear hE1
        go_wp2_with fail
        go_quiet (first | (go_at_call 66; with_reducible exact Calls.quiet_of_same (rahead_q HZ1.out HK0.out.1 HK1.out.1)) | (go_at_call 66; with_reducible exact Calls.quiet_of_same (rahead_q HZ2.out HK0.out.1 HK2.out.1)))
        have hE2 : Ext w1 (w1.drewN nq) := (Ext.refl w1).drewN _
        generalize w1.drewN nq = w2 at hE2 ⊢
        have HE2 := Lib.hid (HE1.out.trans hE2); clear hE2 fc0
        go_wp2_with fail

        refine (HIL.out Al 0 cl _ (HL.out.ext HE2.out)).mono ?_
        rintro e w3 ⟨rfl, hE⟩
        have HE3 := Lib.hid (HE2.out.trans hE); clear hE
        obtain ⟨z3, hz3⟩ : ∃ z, heapB .leaf = z := ⟨_, rfl⟩
        rw [hz3]
        have HZ3 := Lib.hid hz3; clear hz3
        cases z3 with
        | false =>
          go_wp2_with fail
          go_ret
          exact ⟨ret_bool (by rw [HV.out]; exact b4f HZ3.out), HE3.out⟩
        | true =>
          go_wp2_with fail
          refine (HIR.out Ar 0 cr _ (HR.out.ext HE3.out)).mono ?_
          rintro e w4 ⟨rfl, hE⟩
          have HE4 := Lib.hid (HE3.out.trans hE); clear hE
          go_wp2_with fail
          go_ret
          exact ⟨ret_bool (by rw [HV.out]; exact b4 (rfl : topB k .leaf = true) (rfl : topB k .leaf = true) HZ3.out), HE4.out⟩
      | node l2 k2 v2 r2 =>
        obtain ⟨b2, off2, Al2, nl2, cl2, Ar2, nr2, cr2, rfl, rfl, hbr, hk2, e0, e1, e2, e3, -, -⟩ := HR.out.node
        have HK2 := Lib.hid hk2; clear hk2 e1 e2 e3
        obtain ⟨z2, hz2⟩ : ∃ z, ahB k k2 = z := ⟨_, rfl⟩
        have HZ2 := Lib.hid hz2
        cases z2 with
        | false =>
          have ht : topB k (.node l2 k2 v2 r2) = false := hz2
          have HT := Lib.hid ht; clear ht hz2
          go_enter Try.func52, Try.ntmps52
          go_wp2_with fail
          go_quiet (fail)
          have hE1 : Ext w (w.drewN nq) := (Ext.refl w).drewN _
          generalize w.drewN nq = w1 at hE1 ⊢
          have fc0 := hE1.cell c0
          have fe0 := hE1.cell e0
          clear c0 c1 c2 c3 e0
          have hhb := Nat.lt_of_lt_of_le hb hE1.size
          have hhbr := Nat.lt_of_lt_of_le hbr hE1.size
          have HE1 := Lib.hid hE1; clear hE1
          go_wp2_with fail
          go_quiet (first | (go_at_call 66; with_reducible exact Calls.quiet_of_same (rahead_q HZ1.out HK0.out.1 HK1.out.1)) | (go_at_call 66; with_reducible exact Calls.quiet_of_same (rahead_q HZ2.out HK0.out.1 HK2.out.1)))
          have hE2 : Ext w1 (w1.drewN nq) := (Ext.refl w1).drewN _
          generalize w1.drewN nq = w2 at hE2 ⊢
          have HE2 := Lib.hid (HE1.out.trans hE2); clear hE2 fc0 fe0
          go_wp2_with fail

          go_ret
          exact ⟨ret_bool (by rw [HV.out]; first | with_reducible exact b4x HT.out | with_reducible exact b4y HT.out), HE2.out⟩
        | true =>
          have ht : topB k (.node l2 k2 v2 r2) = true := hz2
          have HT2 := Lib.hid ht; clear ht hz2
          go_enter Try.func52, Try.ntmps52
          go_wp2_with fail
          go_quiet (fail)
          have hE1 : Ext w (w.drewN nq) := (Ext.refl w).drewN _
          generalize w.drewN nq = w1 at hE1 ⊢
          have fc0 := hE1.cell c0
          have fe0 := hE1.cell e0
          clear c0 c1 c2 c3 e0
          have hhb := Nat.lt_of_lt_of_le hb hE1.size
          have hhbr := Nat.lt_of_lt_of_le hbr hE1.size
          have HE1 := Lib.hid hE1; clear hE1
          go_wp2_with fail
          go_quiet (first | (go_at_call 66; with_reducible exact Calls.quiet_of_same (rahead_q HZ1.out HK0.out.1 HK1.out.1)) | (go_at_call 66; with_reducible exact Calls.quiet_of_same (rahead_q HZ2.out HK0.out.1 HK2.out.1)))
          have hE2 : Ext w1 (w1.drewN nq) := (Ext.refl w1).drewN _
          generalize w1.drewN nq = w2 at hE2 ⊢
          have HE2 := Lib.hid (HE1.out.trans hE2); clear hE2 fc0 fe0
          go_wp2_with fail

          refine (HIL.out Al 0 cl _ (HL.out.ext HE2.out)).mono ?_
          rintro e w3 ⟨rfl, hE⟩
          have HE3 := Lib.hid (HE2.out.trans hE); clear hE
          obtain ⟨z3, hz3⟩ : ∃ z, heapB .leaf = z := ⟨_, rfl⟩
          rw [hz3]
          have HZ3 := Lib.hid hz3; clear hz3
          cases z3 with
          | false =>
            go_wp2_with fail
            go_ret
            exact ⟨ret_bool (by rw [HV.out]; exact b4f HZ3.out), HE3.out⟩
          | true =>
            go_wp2_with fail
            refine (HIR.out _ 1 cr _ (HR.out.ext HE3.out)).mono ?_
            rintro e w4 ⟨rfl, hE⟩
            have HE4 := Lib.hid (HE3.out.trans hE); clear hE
            go_wp2_with fail
            go_ret
            exact ⟨ret_bool (by rw [HV.out]; exact b4 (rfl : topB k .leaf = true) HT2.out HZ3.out), HE4.out⟩
    | node l1 k1 v1 r1 =>
      obtain ⟨b1, off1, Al1, nl1, cl1, Ar1, nr1, cr1, rfl, rfl, hbl, hk1, d0, d1, d2, d3, -, -⟩ := HL.out.node
      have HK1 := Lib.hid hk1; clear hk1 d1 d2 d3
      obtain ⟨z1, hz1⟩ : ∃ z, ahB k k1 = z := ⟨_, rfl⟩
      have HZ1 := Lib.hid hz1
      cases z1 with
      | false =>
        have ht : topB k (.node l1 k1 v1 r1) = false := hz1
        have HT := Lib.hid ht; clear ht hz1
        go_enter Try.func52, Try.ntmps52
        go_wp2_with fail
        go_quiet (fail)
        have hE1 : Ext w (w.drewN nq) := (Ext.refl w).drewN _
        generalize w.drewN nq = w1 at hE1 ⊢
        have fc0 := hE1.cell c0
        have fd0 := hE1.cell d0
        clear c0 c1 c2 c3 d0
        have hhb := Nat.lt_of_lt_of_le hb hE1.size
        have hhbl := Nat.lt_of_lt_of_le hbl hE1.size
        have HE1 := Lib.hid hE1; clear hE1
        go_wp2_with fail
        go_quiet (first | (go_at_call 66; with_reducible exact Calls.quiet_of_same (rahead_q HZ1.out HK0.out.1 HK1.out.1)) | (go_at_call 66; with_reducible exact Calls.quiet_of_same (rahead_q HZ2.out HK0.out.1 HK2.out.1)))
        have hE2 : Ext w1 (w1.drewN nq) := (Ext.refl w1).drewN _
        generalize w1.drewN nq = w2 at hE2 ⊢
        have HE2 := Lib.hid (HE1.out.trans hE2); clear hE2 fc0 fd0
        go_wp2_with fail

        go_ret
        exact ⟨ret_bool (by rw [HV.out]; first | with_reducible exact b4x HT.out | with_reducible exact b4y HT.out), HE2.out⟩
      | true =>
        have ht : topB k (.node l1 k1 v1 r1) = true := hz1
        have HT1 := Lib.hid ht; clear ht hz1
        cases r with
        | leaf =>
          obtain rfl := HR.out.leaf
          go_enter Try.func52, Try.ntmps52
          go_wp2_with fail
          go_quiet (fail)
          have hE1 : Ext w (w.drewN nq) := (Ext.refl w).drewN _
          generalize w.drewN nq = w1 at hE1 ⊢
          have fc0 := hE1.cell c0
          have fd0 := hE1.cell d0
          clear c0 c1 c2 c3 d0
          have hhb := Nat.lt_of_lt_of_le hb hE1.size
          have hhbl := Nat.lt_of_lt_of_le hbl hE1.size
          have HE1 := Lib.hid hE1; clear hE1
          go_wp2_with fail
          go_quiet (first | (go_at_call 66; with_reducible exact Calls.quiet_of_same (rahead_q HZ1.out HK0.out.1 HK1.out.1)) | (go_at_call 66; with_reducible exact Calls.quiet_of_same (rahead_q HZ2.out HK0.out.1 HK2.out.1)))
          have hE2 : Ext w1 (w1.drewN nq) := (Ext.refl w1).drewN _
          generalize w1.drewN nq = w2 at hE2 ⊢
          have HE2 := Lib.hid (HE1.out.trans hE2); clear hE2 fc0 fd0
          go_wp2_with fail

          refine (HIL.out _ 1 cl _ (HL.out.ext HE2.out)).mono ?_
          rintro e w3 ⟨rfl, hE⟩
          have HE3 := Lib.hid (HE2.out.trans hE); clear hE
          obtain ⟨z3, hz3⟩ : ∃ z, heapB (.node l1 k1 v1 r1) = z := ⟨_, rfl⟩
          rw [hz3]
          have HZ3 := Lib.hid hz3; clear hz3
          cases z3 with
          | false =>
            go_wp2_with fail
            go_ret
            exact ⟨ret_bool (by rw [HV.out]; exact b4f HZ3.out), HE3.out⟩
          | true =>
            go_wp2_with fail
            refine (HIR.out Ar 0 cr _ (HR.out.ext HE3.out)).mono ?_
            rintro e w4 ⟨rfl, hE⟩
            have HE4 := Lib.hid (HE3.out.trans hE); clear hE
            go_wp2_with fail
            go_ret
            exact ⟨ret_bool (by rw [HV.out]; exact b4 HT1.out (rfl : topB k .leaf = true) HZ3.out), HE4.out⟩
        | node l2 k2 v2 r2 =>
          obtain ⟨b2, off2, Al2, nl2, cl2, Ar2, nr2, cr2, rfl, rfl, hbr, hk2, e0, e1, e2, e3, -, -⟩ := HR.out.node
          have HK2 := Lib.hid hk2; clear hk2 e1 e2 e3
          obtain ⟨z2, hz2⟩ : ∃ z, ahB k k2 = z := ⟨_, rfl⟩
          have HZ2 := Lib.hid hz2
          cases z2 with
          | false =>
            have ht : topB k (.node l2 k2 v2 r2) = false := hz2
            have HT := Lib.hid ht; clear ht hz2
            go_enter Try.func52, Try.ntmps52
            go_wp2_with fail
            go_quiet (fail)
            have hE1 : Ext w (w.drewN nq) := (Ext.refl w).drewN _
            generalize w.drewN nq = w1 at hE1 ⊢
            have fc0 := hE1.cell c0
            have fd0 := hE1.cell d0
            have fe0 := hE1.cell e0
            clear c0 c1 c2 c3 d0 e0
            have hhb := Nat.lt_of_lt_of_le hb hE1.size
            have hhbl := Nat.lt_of_lt_of_le hbl hE1.size
            have hhbr := Nat.lt_of_lt_of_le hbr hE1.size
            have HE1 := Lib.hid hE1; clear hE1
            go_wp2_with fail
            go_quiet (first | (go_at_call 66; with_reducible exact Calls.quiet_of_same (rahead_q HZ1.out HK0.out.1 HK1.out.1)) | (go_at_call 66; with_reducible exact Calls.quiet_of_same (rahead_q HZ2.out HK0.out.1 HK2.out.1)))
            have hE2 : Ext w1 (w1.drewN nq) := (Ext.refl w1).drewN _
            generalize w1.drewN nq = w2 at hE2 ⊢
            have HE2 := Lib.hid (HE1.out.trans hE2); clear hE2 fc0 fd0 fe0
            go_wp2_with fail

            go_ret
            exact ⟨ret_bool (by rw [HV.out]; first | with_reducible exact b4x HT.out | with_reducible exact b4y HT.out), HE2.out⟩
          | true =>
            have ht : topB k (.node l2 k2 v2 r2) = true := hz2
            have HT2 := Lib.hid ht; clear ht hz2
            go_enter Try.func52, Try.ntmps52
            go_wp2_with fail
            go_quiet (fail)
            have hE1 : Ext w (w.drewN nq) := (Ext.refl w).drewN _
            generalize w.drewN nq = w1 at hE1 ⊢
            have fc0 := hE1.cell c0
            have fd0 := hE1.cell d0
            have fe0 := hE1.cell e0
            clear c0 c1 c2 c3 d0 e0
            have hhb := Nat.lt_of_lt_of_le hb hE1.size
            have hhbl := Nat.lt_of_lt_of_le hbl hE1.size
            have hhbr := Nat.lt_of_lt_of_le hbr hE1.size
            have HE1 := Lib.hid hE1; clear hE1
            go_wp2_with fail
            go_quiet (first | (go_at_call 66; with_reducible exact Calls.quiet_of_same (rahead_q HZ1.out HK0.out.1 HK1.out.1)) | (go_at_call 66; with_reducible exact Calls.quiet_of_same (rahead_q HZ2.out HK0.out.1 HK2.out.1)))
            have hE2 : Ext w1 (w1.drewN nq) := (Ext.refl w1).drewN _
            generalize w1.drewN nq = w2 at hE2 ⊢
            have HE2 := Lib.hid (HE1.out.trans hE2); clear hE2 fc0 fd0 fe0
            go_wp2_with fail

            refine (HIL.out _ 1 cl _ (HL.out.ext HE2.out)).mono ?_
            rintro e w3 ⟨rfl, hE⟩
            have HE3 := Lib.hid (HE2.out.trans hE); clear hE
            obtain ⟨z3, hz3⟩ : ∃ z, heapB (.node l1 k1 v1 r1) = z := ⟨_, rfl⟩
            rw [hz3]
            have HZ3 := Lib.hid hz3; clear hz3
            cases z3 with
            | false =>
              go_wp2_with fail
              go_ret
              exact ⟨ret_bool (by rw [HV.out]; exact b4f HZ3.out), HE3.out⟩
            | true =>
              go_wp2_with fail
              refine (HIR.out _ 1 cr _ (HR.out.ext HE3.out)).mono ?_
              rintro e w4 ⟨rfl, hE⟩
              have HE4 := Lib.hid (HE3.out.trans hE); clear hE
              go_wp2_with fail
              go_ret
              exact ⟨ret_bool (by rw [HV.out]; exact b4 HT1.out HT2.out HZ3.out), HE4.out⟩
end Go.Proofs.Ytbjniaihkllmdaa

/- The walk of HunkcommuteEffect: it returns true, and adds new memory at most. -/
import Derived.Test.YtilogolnoifigaaFollow
namespace Go.Proofs.Ytilogolnoifigaa
open Go.RowKit

/-! ### The plain law -/
theorem applyV_of {ls P R : List ByteArray} {x : AH} (h0 : 0 ≤ x.at_) (h1 : x.at_ ≤ 1099511627776) (h2 : ¬ x.old.length + x.new.length = 0) (hl : ls = P ++ x.old ++ R) (hp : (P.length : Int) = x.at_) : applyV ls x = some (P ++ x.new ++ R) := by
  have hn : x.at_.toNat = P.length := by omega
  rw [applyV_fits (by omega) (by rw [hn, hl]; simp only [List.length_append]; omega) (by rw [hn, hl, List.append_assoc, List.drop_left, List.take_left]), hn, hl]
  congr 1
  rw [List.append_assoc P x.old R, List.take_left, ← List.append_assoc P x.old R]
  congr 1
  rw [← List.length_append, List.drop_left]
theorem applyV_to {ls r : List ByteArray} {x : AH} (h : applyV ls x = some r) : 0 ≤ x.at_ ∧ x.at_ ≤ 1099511627776 ∧ ¬ x.old.length + x.new.length = 0 ∧ ∃ P R, ls = P ++ x.old ++ R ∧ (P.length : Int) = x.at_ ∧ r = P ++ x.new ++ R := by
  unfold applyV at h
  split at h
  · cases h
  · rename_i h0
    split at h
    · cases h
    · rename_i h1
      split at h
      · rename_i h2
        cases h
        refine ⟨by omega, by omega, by omega, ls.take x.at_.toNat, ls.drop (x.at_.toNat + x.old.length), ?_, by rw [List.length_take]; omega, rfl⟩
        have h3 : (ls.drop x.at_.toNat).take x.old.length ++ (ls.drop x.at_.toNat).drop x.old.length = ls.drop x.at_.toNat := List.take_append_drop _ _
        rw [h2, List.drop_drop] at h3
        rw [List.append_assoc, h3, List.take_append_drop]
      · cases h

/-- P11.2: the commuted hunks have the same effect. -/
theorem effect_law {ls l1 l2 : List ByteArray} {x y : AH} {p q : Int} (h : (x.at_ + x.new.length < y.at_ ∧ p = y.at_ + ((x.old.length : Int) - x.new.length) ∧ q = x.at_) ∨ (y.at_ + y.old.length < x.at_ ∧ p = y.at_ ∧ q = x.at_ + ((y.new.length : Int) - y.old.length)))
    (hp : p ≤ 1099511627776) (hq : q ≤ 1099511627776) (h1 : applyV ls x = some l1) (h2 : applyV l1 y = some l2) : ∃ m, applyV ls { y with at_ := p } = some m ∧ applyV m { x with at_ := q } = some l2 := by
  obtain ⟨a0, a1, a2, P, R, rfl, hP, rfl⟩ := applyV_to h1
  obtain ⟨b0, b1, b2, P2, R2, he, hP2, rfl⟩ := applyV_to h2
  rcases h with ⟨h3, rfl, rfl⟩ | ⟨h3, rfl, rfl⟩
  · rw [List.append_assoc P2] at he
    rcases List.append_eq_append_iff.1 he with ⟨Q, h4, h5⟩ | ⟨Q, h4, h5⟩
    · have hl : P2.length = P.length + x.new.length + Q.length := by rw [h4]; simp only [List.length_append]
      refine ⟨P ++ x.old ++ Q ++ y.new ++ R2, applyV_of (P := P ++ x.old ++ Q) (R := R2) (by simp only; omega) hp b2 (by rw [h5]; simp only [List.append_assoc]) (by simp only [List.length_append]; omega), ?_⟩
      rw [applyV_of (P := P) (R := Q ++ y.new ++ R2) a0 a1 a2 (by simp only [List.append_assoc]) hP, h4]
      simp only [List.append_assoc]
    · have hl : P.length + x.new.length = P2.length + Q.length := by rw [← List.length_append, h4, List.length_append]
      omega
  · rw [List.append_assoc P] at he
    rcases List.append_eq_append_iff.1 he with ⟨Q, h4, h5⟩ | ⟨Q, h4, h5⟩
    · have hl : P2.length + y.old.length = P.length + Q.length := by rw [← List.length_append, h4, List.length_append]
      omega
    · have hl : P.length = P2.length + y.old.length + Q.length := by rw [h4]; simp only [List.length_append]
      refine ⟨P2 ++ y.new ++ Q ++ x.old ++ R, ?_, ?_⟩
      · rw [applyV_of (P := P2) (R := Q ++ x.old ++ R) b0 hp b2 (by rw [h4]; simp only [List.append_assoc]) hP2]
        simp only [List.append_assoc]
      · rw [applyV_of (x := { x with at_ := x.at_ + ((y.new.length : Int) - y.old.length) }) (P := P2 ++ y.new ++ Q) (R := R) (by simp only; omega) hq a2 rfl (by simp only [List.length_append]; omega), h5]
        simp only [List.append_assoc]

/-- The same of the hunks as Commute gives them. -/
theorem effect_is {w : World} {a b p q : Hk} {x y : AH} {ls l2 : List ByteArray} (ha : RH w a x) (hb : RH w b y) (h : commuteV a b = some (p, q)) (hf : followV ls [x, y] = some l2) : followV ls [{ y with at_ := p.at_ }, { x with at_ := q.at_ }] = some l2 := by
  have h1 := commuteV_at h
  have h2 := (commuteV_some (commuteV_twice h)).1
  have h3 := (commuteV_some (commuteV_twice h)).2.1
  have h2' := (ok_bounds h2).2; have h3' := (ok_bounds h3).2
  rw [ha.2.1, hb.2.1, ← ha.2.2.1.1, ← ha.2.2.2.1, ← hb.2.2.1.1, ← hb.2.2.2.1] at h1
  simp only [followV] at hf
  split at hf
  · cases hf
  · rename_i l1 e1
    split at hf
    · cases hf
    · rename_i l2' e2
      cases hf
      obtain ⟨m, m1, m2⟩ := effect_law (p := p.at_) (q := q.at_) (by rcases h1 with h1 | h1; · exact .inl h1
                                                                     · exact .inr ⟨h1.1, h1.2.2⟩) h2' h3' e1 e2
      simp only [followV, m1, m2]

/-! ### Contracts -/
theorem rhs2 {a b : Hk} {x y : AH} (w : World) (ha : RH w a x) (hb : RH w b y) (g : Nat) (hg : g = w.heap.size) : RHS (w.alloc (obj2 a b)) ⟨some ⟨g, 0, none⟩, 2, 2, [a, b], [x, y]⟩ := by
  subst hg
  have hE := (Ext.refl w).alloc (obj2 a b)
  exact rhs_blk (hs := [a, b]) (xs := [x, y]) (Blk.new w (obj2 a b) rfl) rfl (by show 2 ≤ Reach; decide) (rel2 (ha.ext hE) (hb.ext hE)) 2
theorem follow2 {ls : List ByteArray} {A : Option Addr} {n c : Nat} {a b : Hk} {x y : AH} (w : World) (hl : Strs w A n ls) (hnc : n ≤ c) (hn : n ≤ 1000) (ha : RH w a x) (hb : RH w b y) (hx : x.new.length ≤ 1000) (hy : y.new.length ≤ 1000) (g : Nat) (hg : g = w.heap.size) :
    Calls Try.prog 19 #[.slice A n c, .slice (some ⟨g, 0, none⟩) 2 2] (w.alloc (obj2 a b)) fun e w' => Ext w w' ∧ Followed (followV ls [x, y]) e w' := by
  have h := follow_any A n c ⟨some ⟨g, 0, none⟩, 2, 2, [a, b], [x, y]⟩ (w.alloc (obj2 a b)) (hl.ext ((Ext.refl w).alloc _)) hnc hn (rhs2 w ha hb g hg) (by show 2 ≤ 1000; decide) (by
    intro z hz
    rcases List.mem_cons.1 hz with rfl | hz
    · exact hx
    · obtain rfl := List.mem_singleton.1 hz; exact hy)
  exact h.mono fun e w' ⟨h1, h2⟩ => ⟨((Ext.refl w).alloc _).trans h1, h2⟩
theorem follow2_none {ls : List ByteArray} {A : Option Addr} {n c : Nat} {a b : Hk} {x y : AH} (w : World) (hl : Strs w A n ls) (hnc : n ≤ c) (hn : n ≤ 1000) (ha : RH w a x) (hb : RH w b y) (hx : x.new.length ≤ 1000) (hy : y.new.length ≤ 1000) (g : Nat) (hg : g = w.heap.size) (hf : followV ls [x, y] = none) :
    Calls Try.prog 19 #[.slice A n c, .slice (some ⟨g, 0, none⟩) 2 2] (w.alloc (obj2 a b)) fun e w' => Ext w w' ∧ e = .returned (.tuple #[.slice none 0 0, .bool false]) := by
  have := follow2 w hl hnc hn ha hb hx hy g hg
  rw [hf] at this; exact this
theorem follow2_some {ls ss : List ByteArray} {A : Option Addr} {n c : Nat} {a b : Hk} {x y : AH} (w : World) (hl : Strs w A n ls) (hnc : n ≤ c) (hn : n ≤ 1000) (ha : RH w a x) (hb : RH w b y) (hx : x.new.length ≤ 1000) (hy : y.new.length ≤ 1000) (g : Nat) (hg : g = w.heap.size) (hf : followV ls [x, y] = some ss) :
    Calls Try.prog 19 #[.slice A n c, .slice (some ⟨g, 0, none⟩) 2 2] (w.alloc (obj2 a b)) fun e w' => Ext w w' ∧ ∃ B c, ss.length ≤ c ∧ ss.length ≤ 2000000 ∧ Strs w' B ss.length ss ∧ e = .returned (.tuple #[.slice B ss.length c, .bool true]) := by
  have := follow2 w hl hnc hn ha hb hx hy g hg
  rw [hf] at this; exact this

theorem great04_len {l : List ByteArray} (h : great04 l = false) : l.length ≤ 40 := by
  unfold great04 at h; simp at h; omega
/-- 'great(lines, []api.Hunk{a, b})', and what a no means. -/
theorem great2_is (B : Option Addr) (m d : Nat) (a b : Hk) (x y : AH) (w : World) (hm : m ≤ Reach) (ha : RH w a x) (hb : RH w b y) (g g' : Nat) (hg : g = w.heap.size) (hg' : g' = w.heap.size + 1) :
    ∃ r : Bool, (r = false → m ≤ 30 ∧ x.old.length ≤ 40 ∧ x.new.length ≤ 40 ∧ y.old.length ≤ 40 ∧ y.new.length ≤ 40) ∧ Calls Try.prog 10 #[.slice B m d, .slice (some ⟨g', 0, none⟩) 1 1] ((w.alloc (obj2 a b)).alloc (objS g 2)) fun e w' => e = .returned (.bool r) ∧ Ext w w' := by
  subst hg; subst hg'
  have hE := ((Ext.refl w).alloc (obj2 a b)).alloc (objS w.heap.size 2)
  have h1 := rhs_blk (hs := [a, b]) (xs := [x, y]) ((Blk.new w (obj2 a b) rfl).alloc (objS w.heap.size 2)) rfl (by show 2 ≤ Reach; decide) (rel2 (ha.ext hE) (hb.ext hE)) 2
  have h2 := rhss_blk (L := [⟨some ⟨w.heap.size, 0, none⟩, 2, 2, [a, b], [x, y]⟩]) (Blk.new (w.alloc (obj2 a b)) (objS w.heap.size 2) (g := w.heap.size + 1) (by simp)) (by show 1 ≤ Reach; decide) (by intro s hs; obtain rfl := List.mem_singleton.1 hs; exact h1)
  refine ⟨_, fun hr => ?_, (great_any B m d _ 1 1 _ _ hm h2).mono fun e w' ⟨he, hx⟩ => ⟨he, hE.trans hx⟩⟩
  simp only [Bool.or_eq_false_iff, decide_eq_false_iff_not, List.any_cons, List.any_nil, great08] at hr
  obtain ⟨h3, ⟨⟨⟨h4, h5⟩, ⟨h6, h7⟩, _⟩, _⟩, _⟩ := hr
  exact ⟨by omega, great04_len h4, great04_len h5, great04_len h6, great04_len h7⟩

set_option maxRecDepth 100000 in
set_option maxHeartbeats 4000000 in
theorem effect_walk {A : Option Addr} {n c : Nat} {ls : List ByteArray} {a b : Hk} {x y : AH} (w : World) (hl : Strs w A n ls) (hnc : n ≤ c) (hn : n ≤ Reach) (ha : RH w a x) (hb : RH w b y) :
    Calls Try.prog 7 #[.slice A n c, a.val, b.val] w fun e w' => e = .returned (.bool true) ∧ Ext w w' := by
  have HL := Lib.hid hl; have HA := Lib.hid ha; have HB := Lib.hid hb; clear hl ha hb
  have K0 := Lib.hid (((Know.start w).new a.obj rfl).new b.obj (g := w.heap.size + 1) (by simp))
  obtain ⟨G, hgr, hG⟩ := great2_is A n c a b x y _ hn (HA.out.ext K0.out.1) (HB.out.ext K0.out.1) (w.heap.size + 2) (w.heap.size + 3) (by simp) (by simp)
  have HG := Lib.hid hG; have HGR := Lib.hid hgr; clear hG hgr
  go_enter Try.func7, Try.ntmps7
  go_wp2_with fail
  refine HG.out.mono ?_
  rintro e w1 ⟨rfl, hE⟩
  have K1 := Lib.hid (K0.out.ext hE); clear hE
  cases G
  case true =>
    go_wp2_with fail
    refine (awake_any _).mono ?_
    rintro e w2 ⟨rfl, hE⟩
    have HE := Lib.hid (K1.out.1.trans hE); clear hE
    go_wp2_with fail
    go_ret
    exact ⟨rfl, HE.out⟩
  obtain ⟨s0, s1, s2, s3, s4⟩ := HGR.out rfl
  obtain ⟨c00, c01, c02⟩ := (K1.out.at 1 rfl).cells3
  obtain ⟨c10, c11, c12⟩ := (K1.out.at 0 rfl).cells3
  go_wp2_with fail
  clear c00 c01 c02 c10 c11 c12
  obtain ⟨p, q, ok, h1⟩ : ∃ x y ok, commuteT a b = (x, y, ok) := ⟨_, _, _, rfl⟩
  refine (commute_is h1 _ HA.out.1 HB.out.1).mono ?_
  have H1 := Lib.hid h1; clear h1
  rintro e w2 ⟨rfl, hE⟩
  have K2 := Lib.hid (((K1.out.ext hE).new p.obj rfl).new q.obj (g := w2.heap.size + 1) (by simp)); clear hE
  obtain ⟨c00, c01, c02⟩ := (K2.out.at 3 rfl).cells3
  obtain ⟨c10, c11, c12⟩ := (K2.out.at 2 rfl).cells3
  go_wp2_with fail
  clear c00 c01 c02 c10 c11 c12
  cases hf : followV ls [x, y] with
  | none =>
    have HF := Lib.hid hf; clear hf
    refine (follow2_none _ (HL.out.ext K2.out.1) hnc (by omega) (HA.out.ext K2.out.1) (HB.out.ext K2.out.1) (by omega) (by omega) (w2.heap.size + 2) (by simp) HF.out).mono ?_
    rintro e w3 ⟨hE, rfl⟩
    have HE := Lib.hid (K2.out.1.trans hE); clear hE
    cases ok
    all_goals
      go_wp2_with fail
      refine (awake_any _).mono ?_
      rintro e w4 ⟨rfl, hE⟩
      have HE4 := Lib.hid (HE.out.trans hE); clear hE
      go_wp2_with fail
      go_ret
      exact ⟨rfl, HE4.out⟩
  | some l2 =>
    have HF := Lib.hid hf; clear hf
    refine (follow2_some _ (HL.out.ext K2.out.1) hnc (by omega) (HA.out.ext K2.out.1) (HB.out.ext K2.out.1) (by omega) (by omega) (w2.heap.size + 2) (by simp) HF.out).mono ?_
    rintro e w3 ⟨hE, B, d, hld, hl2, hS, rfl⟩
    have K3 := Lib.hid (K2.out.ext hE); have HS := Lib.hid hS; clear hE hS
    cases ok
    case false =>
      go_wp2_with fail
      refine (awake_any _).mono ?_
      rintro e w4 ⟨rfl, hE⟩
      have HE4 := Lib.hid (K3.out.1.trans hE); clear hE
      go_wp2_with fail
      go_ret
      exact ⟨rfl, HE4.out⟩
    obtain ⟨k1, k2⟩ := commuteV_like (commuteT_true H1.out)
    have RP := Lib.hid (rh_like HB.out k1); have RQ := Lib.hid (rh_like HA.out k2); clear k1 k2
    have HF2 := Lib.hid (effect_is HA.out HB.out (commuteT_true H1.out) HF.out)
    obtain ⟨c00, c01, c02⟩ := (K3.out.at 1 rfl).cells3
    obtain ⟨c10, c11, c12⟩ := (K3.out.at 0 rfl).cells3
    go_wp2_with fail
    clear c00 c01 c02 c10 c11 c12
    refine (follow2_some _ (HL.out.ext K3.out.1) hnc (by omega) (RP.out.ext K3.out.1) (RQ.out.ext K3.out.1) (by simp only; omega) (by simp only; omega) w3.heap.size rfl HF2.out).mono ?_
    rintro e w4 ⟨hE, B', d', hld', hl2', hS', rfl⟩
    have HS2 := Lib.hid (HS.out.ext hE); have HS' := Lib.hid hS'; have HE4 := Lib.hid (K3.out.1.trans hE); clear hE hS'
    go_wp2_with fail
    refine (equal_is (r := true) _ HS'.out HS2.out (by unfold Reach; omega) (by unfold Reach; omega) (by simp)).mono ?_
    rintro e w5 ⟨rfl, hE⟩
    have HE5 := Lib.hid (HE4.out.trans hE); clear hE
    go_wp2_with fail
    refine (awake_any _).mono ?_
    rintro e w6 ⟨rfl, hE⟩
    have HE6 := Lib.hid (HE5.out.trans hE); clear hE
    go_wp2_with fail
    go_ret
    exact ⟨rfl, HE6.out⟩
end Go.Proofs.Ytilogolnoifigaa

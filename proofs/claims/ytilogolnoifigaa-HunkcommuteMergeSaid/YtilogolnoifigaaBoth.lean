/- The walk of HunkcommuteMerge: it returns true, and adds new memory at most. -/
import Derived.Test.YtilogolnoifigaaEffect
import Derived.Test.YtilogolnoifigaaPair
namespace Go.Proofs.Ytilogolnoifigaa
open Go.RowKit

/-! ### The plain laws -/
theorem mergeV_some {a b y x : Hk} (h : mergeV a b = some (y, x)) :
    a.ok = true ∧ b.ok = true ∧
    ((a.at_ + a.ol < b.at_ ∧ b.at_ + ((a.nl : Int) - a.ol) ≤ 1099511627776 ∧ y = { b with at_ := b.at_ + ((a.nl : Int) - a.ol) } ∧ x = a) ∨
     (¬ a.at_ + a.ol < b.at_ ∧ b.at_ + b.ol < a.at_ ∧ a.at_ + ((b.nl : Int) - b.ol) ≤ 1099511627776 ∧ y = b ∧ x = { a with at_ := a.at_ + ((b.nl : Int) - b.ol) })) := by
  unfold mergeV at h
  split at h
  · cases h
  · rename_i hok
    simp only [not_or, Bool.not_eq_false] at hok
    refine ⟨hok.1, hok.2, ?_⟩
    split at h
    · rename_i h1
      split at h
      · rename_i h2; cases h; exact .inl ⟨h1, h2, rfl, rfl⟩
      · cases h
    · rename_i h1
      split at h
      · rename_i h2
        split at h
        · rename_i h3; cases h; exact .inr ⟨h1, h2, h3, rfl, rfl⟩
        · cases h
      · cases h
theorem mergeV_left {a b : Hk} (h1 : a.ok = true) (h2 : b.ok = true) (h3 : a.at_ + a.ol < b.at_) (h4 : b.at_ + ((a.nl : Int) - a.ol) ≤ 1099511627776) : mergeV a b = some ({ b with at_ := b.at_ + ((a.nl : Int) - a.ol) }, a) := by
  unfold mergeV; rw [if_neg (by simp [h1, h2]), if_pos h3, if_pos h4]
theorem mergeV_right {a b : Hk} (h1 : a.ok = true) (h2 : b.ok = true) (h0 : ¬ a.at_ + a.ol < b.at_) (h3 : b.at_ + b.ol < a.at_) (h4 : a.at_ + ((b.nl : Int) - b.ol) ≤ 1099511627776) : mergeV a b = some (b, { a with at_ := a.at_ + ((b.nl : Int) - b.ol) }) := by
  unfold mergeV; rw [if_neg (by simp [h1, h2]), if_neg h0, if_pos h3, if_pos h4]
theorem mergeV_swap {a b y x : Hk} (h : mergeV a b = some (y, x)) : mergeV b a = some (x, y) := by
  obtain ⟨h1, h2, ⟨h3, h4, rfl, rfl⟩ | ⟨h0, h3, h4, rfl, rfl⟩⟩ := mergeV_some h
  · exact mergeV_right h2 h1 (by omega) h3 h4
  · exact mergeV_left h2 h1 h3 h4
theorem inv_ok {h : Hk} : h.inv.ok = h.ok := by
  rw [Bool.eq_iff_iff, ok_iff, ok_iff]; simp only [Hk.inv]; omega
theorem inv_inv (h : Hk) : h.inv.inv = h := rfl
theorem mergeV_inv {a b y x : Hk} (h : mergeV a b = some (y, x)) : commuteV a.inv b = some (y, x.inv) := by
  obtain ⟨h1, h2, ⟨h3, h4, rfl, rfl⟩ | ⟨h0, h3, h4, rfl, rfl⟩⟩ := mergeV_some h
  · exact commuteV_left (by rw [inv_ok]; exact h1) h2 h3 h4
  · exact commuteV_right (by rw [inv_ok]; exact h1) h2 h0 h3 h4
theorem mergeV_of_inv {a b y x : Hk} (h : commuteV a.inv b = some (y, x)) : mergeV a b = some (y, x.inv) := by
  obtain ⟨h1, h2, ⟨h3, h4, rfl, rfl⟩ | ⟨h0, h3, h4, rfl, rfl⟩⟩ := commuteV_some h
  · exact mergeV_left (by rw [← inv_ok]; exact h1) h2 h3 h4
  · exact mergeV_right (by rw [← inv_ok]; exact h1) h2 h0 h3 h4
theorem mergeT_true {a b x y : Hk} (h : mergeT a b = (x, y, true)) : mergeV a b = some (x, y) := by
  unfold mergeT at h
  split at h
  · cases h
  · rename_i h'; cases h; exact h'
theorem mergeT_swap {a b x y : Hk} {ok : Bool} (h : mergeT a b = (y, x, ok)) : mergeT b a = (x, y, ok) := by
  unfold mergeT at h ⊢
  split at h
  · rename_i h'
    cases h
    cases h2 : mergeV b a with
    | none => rfl
    | some r => rw [mergeV_swap (y := r.1) (x := r.2) h2] at h'; cases h'
  · rename_i h'
    cases h
    rw [mergeV_swap h']
theorem mergeT_inv {a b x y : Hk} {ok : Bool} (h : mergeT a b = (y, x, ok)) : commuteT a.inv b = (y, x.inv, ok) := by
  unfold mergeT at h
  unfold commuteT
  split at h
  · rename_i h'
    cases h
    cases h2 : commuteV a.inv b with
    | none => rfl
    | some r => rw [mergeV_of_inv (y := r.1) (x := r.2) h2] at h'; cases h'
  · rename_i h'
    cases h
    rw [mergeV_inv h']
theorem mergeT_small {a b x y : Hk} {ok : Bool} (h : mergeT a b = (y, x, ok)) (ha : a.small) (hb : b.small) : y.small ∧ x.small := by
  have := commuteT_small (mergeT_inv h) (inv_small ha) hb
  exact ⟨this.1, inv_small this.2⟩

/-- Two hunks on the same lines, the first ahead of the second: both orders lead to the same. -/
theorem both_left {ls l1 l2 : List ByteArray} {x y : AH} (h : x.at_ + x.old.length < y.at_) (hp : y.at_ + ((x.new.length : Int) - x.old.length) ≤ 1099511627776) (h1 : applyV ls x = some l1) (h2 : applyV ls y = some l2) :
    ∃ l, applyV l1 { y with at_ := y.at_ + ((x.new.length : Int) - x.old.length) } = some l ∧ applyV l2 { x with at_ := x.at_ } = some l := by
  obtain ⟨a0, a1, a2, P, R, rfl, hP, rfl⟩ := applyV_to h1
  obtain ⟨b0, b1, b2, P2, R2, he, hP2, rfl⟩ := applyV_to h2
  rw [List.append_assoc P2] at he
  rcases List.append_eq_append_iff.1 he with ⟨Q, h4, h5⟩ | ⟨Q, h4, h5⟩
  · have hl : P2.length = P.length + x.old.length + Q.length := by rw [h4]; simp only [List.length_append]
    refine ⟨P ++ x.new ++ Q ++ y.new ++ R2, ?_, ?_⟩
    · rw [h5, applyV_of (x := { y with at_ := y.at_ + ((x.new.length : Int) - x.old.length) }) (P := P ++ x.new ++ Q) (R := R2) (by simp only; omega) hp b2 (by simp only [List.append_assoc]) (by simp only [List.length_append]; omega)]
    · rw [h4, applyV_of (x := { x with at_ := x.at_ }) (P := P) (R := Q ++ y.new ++ R2) a0 a1 a2 (by simp only [List.append_assoc]) hP]
      simp only [List.append_assoc]
  · have hl : P.length + x.old.length = P2.length + Q.length := by rw [← List.length_append, h4, List.length_append]
    omega
theorem both_is {w : World} {a b p q : Hk} {x y : AH} {ls : List ByteArray} (ha : RH w a x) (hb : RH w b y) (h : mergeV a b = some (p, q)) (h1 : (followV ls [x]).isSome = true) (h2 : (followV ls [y]).isSome = true) :
    ∃ l, followV ls [x, { y with at_ := p.at_ }] = some l ∧ followV ls [y, { x with at_ := q.at_ }] = some l := by
  simp only [followV] at h1 h2 ⊢
  cases e1 : applyV ls x with
  | none => rw [e1] at h1; cases h1
  | some l1 =>
    cases e2 : applyV ls y with
    | none => rw [e2] at h2; cases h2
    | some l2 =>
      simp only
      obtain ⟨-, -, h⟩ := mergeV_some h
      rw [ha.2.1, hb.2.1, ← ha.2.2.1.1, ← ha.2.2.2.1, ← hb.2.2.1.1, ← hb.2.2.2.1] at h
      rcases h with ⟨h3, h4, rfl, rfl⟩ | ⟨h0, h3, h4, rfl, rfl⟩
      · obtain ⟨l, m1, m2⟩ := both_left h3 h4 e1 e2
        rw [ha.2.1]
        refine ⟨l, ?_, ?_⟩
        · simp only [m1]
        · simp only [m2]
      · obtain ⟨l, m1, m2⟩ := both_left h3 h4 e2 e1
        rw [hb.2.1]
        refine ⟨l, ?_, ?_⟩
        · simp only [m2]
        · simp only [m1]

theorem follow1 {ls : List ByteArray} {A : Option Addr} {n c : Nat} {a : Hk} {x : AH} {r : Bool} (w : World) (hl : Strs w A n ls) (hnc : n ≤ c) (hn : n ≤ 1000) (ha : RH w a x) (hx : x.new.length ≤ 1000) (g : Nat) (hg : g = w.heap.size) (hr : (followV ls [x]).isSome = r) :
    Calls Try.prog 19 #[.slice A n c, .slice (some ⟨g, 0, none⟩) 1 1] (w.alloc a.obj) fun e w' => Ext w w' ∧ ∃ v, e = .returned (.tuple #[v, .bool r]) := by
  have hE := (Ext.refl w).alloc a.obj
  have h1 : RHS (w.alloc a.obj) ⟨some ⟨g, 0, none⟩, 1, 1, [a], [x]⟩ := ⟨by show 1 ≤ Reach; decide, hks_one a ha.1 w hg, rfl, fun k h z h1 h2 => by
    match k with
    | 0 => cases h1; cases h2; exact ha.ext hE
    | k + 1 => simp at h1⟩
  refine (follow_any A n c ⟨some ⟨g, 0, none⟩, 1, 1, [a], [x]⟩ (w.alloc a.obj) (hl.ext hE) hnc hn h1 (by show 1 ≤ 1000; decide) (by
    intro z hz
    obtain rfl := List.mem_singleton.1 hz; exact hx)).mono fun e w' ⟨h1, h2⟩ => ⟨hE.trans h1, ?_⟩
  subst hr
  cases hf : followV ls [x] with
  | none => rw [show followV ls (HS.xs ⟨some ⟨g, 0, none⟩, 1, 1, [a], [x]⟩) = none from hf] at h2; exact ⟨_, h2⟩
  | some ss =>
    rw [show followV ls (HS.xs ⟨some ⟨g, 0, none⟩, 1, 1, [a], [x]⟩) = some ss from hf] at h2
    obtain ⟨B, c, _, _, _, h⟩ := h2
    exact ⟨_, h⟩
theorem two6 {w : World} {g : Nat} {t : TypeId} {x y z : Value} (h : Blk w g (.cells #[x, y, z] t (0, 0))) : ∀ o, (w.alloc o).cell? ⟨g, 0, none⟩ = some x ∧ (w.alloc o).cell? ⟨g, 1, none⟩ = some y ∧ (w.alloc o).cell? ⟨g, 2, none⟩ = some z :=
  fun o => ⟨(h.alloc o).cell 0, (h.alloc o).cell 1, (h.alloc o).cell 2⟩

set_option maxRecDepth 100000 in
set_option maxHeartbeats 8000000 in
theorem both_walk {A : Option Addr} {n c : Nat} {ls : List ByteArray} {a b : Hk} {x y : AH} (w : World) (hl : Strs w A n ls) (hnc : n ≤ c) (hn : n ≤ Reach) (ha : RH w a x) (hb : RH w b y) :
    Calls Try.prog 8 #[.slice A n c, a.val, b.val] w fun e w' => e = .returned (.bool true) ∧ Ext w w' := by
  have HL := Lib.hid hl; have HA := Lib.hid ha; have HB := Lib.hid hb; clear hl ha hb
  have K0 := Lib.hid (((Know.start w).new a.obj rfl).new b.obj (g := w.heap.size + 1) (by simp))
  obtain ⟨G, hgr, hG⟩ := great2_is A n c a b x y _ hn (HA.out.ext K0.out.1) (HB.out.ext K0.out.1) (w.heap.size + 2) (w.heap.size + 3) (by simp) (by simp)
  have HG := Lib.hid hG; have HGR := Lib.hid hgr; clear hG hgr
  go_enter Try.func8, Try.ntmps8
  go_wp2_with fail
  refine HG.out.mono ?_
  rintro e w1 ⟨rfl, hE⟩
  have K1 := Lib.hid (K0.out.ext hE); clear hE
  cases G
  case true =>
    go_wp2_with fail
    refine (awake_any _).mono ?_
    rintro e w2 ⟨rfl, hE⟩
    have HE := Lib.hid (K1.out.1.trans hE); clear hE
    go_wp2_with fail
    go_ret
    exact ⟨rfl, HE.out⟩
  obtain ⟨s0, s1, s2, s3, s4⟩ := HGR.out rfl
  obtain ⟨c00, c01, c02⟩ := (K1.out.at 1 rfl).cells3
  obtain ⟨c10, c11, c12⟩ := (K1.out.at 0 rfl).cells3
  go_wp2_with fail
  clear c00 c01 c02 c10 c11 c12
  obtain ⟨p, q, ok, h1⟩ : ∃ p q ok, mergeT a b = (p, q, ok) := ⟨_, _, _, rfl⟩
  refine (merge_is h1 _ HA.out.1 HB.out.1).mono ?_
  have H1 := Lib.hid h1; clear h1
  rintro e w2 ⟨rfl, hE⟩
  have K2 := Lib.hid (((K1.out.ext hE).new p.obj rfl).new q.obj (g := w2.heap.size + 1) (by simp)); clear hE
  obtain ⟨c00, c01, c02⟩ := (K2.out.at 3 rfl).cells3
  obtain ⟨c10, c11, c12⟩ := (K2.out.at 2 rfl).cells3
  go_wp2_with fail
  clear c00 c01 c02 c10 c11 c12
  refine (merge_is (mergeT_swap H1.out) _ HB.out.1 HA.out.1).mono ?_
  rintro e w3 ⟨rfl, hE⟩
  have K3 := Lib.hid (((K2.out.ext hE).new q.obj rfl).new p.obj (g := w3.heap.size + 1) (by simp)); clear hE
  go_upto_region 5 with fail
  go_cut [13, 14, 15] (fun s8 s9 s10 wx => ∃ g8 g9, s8 = .pointer (some ⟨g8, 0, none⟩) ∧ s9 = .pointer (some ⟨g9, 0, none⟩) ∧ s10 = .bool ok ∧ Know w [(g8, p.obj), (g9, q.inv.obj), (w3.heap.size + 1, p.obj), (w3.heap.size, q.obj), (w2.heap.size + 1, q.obj), (w2.heap.size, p.obj), (w.heap.size + 1, b.obj), (w.heap.size, a.obj)] wx)
  case first =>
    refine wp_region_X (T := Know w [(w3.heap.size + 1, p.obj), (w3.heap.size, q.obj), (w2.heap.size + 1, q.obj), (w2.heap.size, p.obj), (w.heap.size + 1, b.obj), (w.heap.size, a.obj)]) (Know w [(w3.heap.size + 1, p.obj), (w3.heap.size, q.obj), (w2.heap.size + 1, q.obj), (w2.heap.size, p.obj), (w.heap.size + 1, b.obj), (w.heap.size, a.obj)]) (by kernel_rfl) K3.out.drew (wpX_takes (by kernel_rfl) (fun _ d _ _ _ h => by cases d <;> exact h) (Know.stab _ _) (fun _ h => h) (fuel := 5) [0,1,2,3,4,5,6,7] _ _ (by kernel_rfl) ?_)
    iterate 8
      refine wpTk_want rfl (Eq.refl true) ?_
      apply Exists.intro
      refine ⟨fun wx hx => ?_, ?_⟩
      · obtain ⟨d00, d01, d02⟩ := (hx.at 5 rfl).cells3
        obtain ⟨d10, d11, d12⟩ := (hx.at 4 rfl).cells3
        clear hx
        go_simp
        first
          | with_reducible exact gives_ok _ _ _
          | (have r := invert_is' a wx; with_reducible exact gives_call _ _ _ r)
          | (have r := commute_is (mergeT_inv H1.out) wx (inv_small HA.out.1) HB.out.1; with_reducible exact gives_call _ _ _ r)
      simp only [Act.put, List.setIfInBounds_toArray, List.set_cons_zero, List.set_cons_succ]
    refine wpTk_nil ?_
    refine wpX_alloc2 8 9 zeroObj (by kernel_rfl) (by kernel_rfl) (by kernel_rfl) (by decide) rfl rfl rfl rfl (by simp) (fun _ _ => by go_simp) (fun _ _ => by go_simp) (Know.stab _ _) (fun _ h => h) (fun g8 g9 wv hv hg8 hg9 hne => ?_)
    simp only [Act.put, List.setIfInBounds_toArray, List.set_cons_zero, List.set_cons_succ]
    have hw8 : w.heap.size ≤ g8 := Nat.le_trans hv.1.size hg8
    have hw9 : w.heap.size ≤ g9 := Nat.le_trans hv.1.size hg9
    have hL8 := fun p hp => Nat.ne_of_lt (Nat.lt_of_lt_of_le (hv.2 p hp).lt hg8)
    have hL9 := fun p hp => Nat.ne_of_lt (Nat.lt_of_lt_of_le (hv.2 p hp).lt hg9)
    have HN := Lib.hid (And.intro hw8 (And.intro hw9 (And.intro hL8 (And.intro hL9 hne))))
    clear hw8 hw9 hL8 hL9 hne hv hg8 hg9
    refine wpX_one 10 (by kernel_rfl) rfl rfl (fun wy hy K hK => ?_)
    have HY := Lib.hid hy; clear hy
    obtain ⟨d00, d01, d02⟩ := HY.out.2.1.cells3
    obtain ⟨e00, e01, e02⟩ := HY.out.2.1.free3
    go_simp
    refine hK _ _ ⟨fun wz => Know w [(w3.heap.size + 1, p.obj), (w3.heap.size, q.obj), (w2.heap.size + 1, q.obj), (w2.heap.size, p.obj), (w.heap.size + 1, b.obj), (w.heap.size, a.obj)] wz ∧ Blk wz g8 p.obj ∧ Blk wz g9 zeroObj, (Know.stab _ _).and ((Stab.blk _ _).and (Stab.blk _ _)), fun _ h => h.1,
      ⟨HY.out.1.set3 HN.out.1 HN.out.2.2.1 _ _ _, HY.out.2.1.set3, HY.out.2.2.far3 HN.out.2.2.2.2.symm _ _ _⟩, ?_⟩
    clear hK K d00 d01 d02 e00 e01 e02 HY
    refine wpX_one 11 (by kernel_rfl) rfl rfl (fun wy hy K hK => ?_)
    have HY := Lib.hid hy; clear hy
    obtain ⟨d00, d01, d02⟩ := HY.out.2.2.cells3
    obtain ⟨e00, e01, e02⟩ := HY.out.2.2.free3
    go_simp
    refine hK _ _ ⟨fun wz => Know w [(w3.heap.size + 1, p.obj), (w3.heap.size, q.obj), (w2.heap.size + 1, q.obj), (w2.heap.size, p.obj), (w.heap.size + 1, b.obj), (w.heap.size, a.obj)] wz ∧ Blk wz g8 p.obj ∧ Blk wz g9 q.inv.obj, (Know.stab _ _).and ((Stab.blk _ _).and (Stab.blk _ _)), fun _ h => h.1,
      ⟨HY.out.1.set3 HN.out.2.1 HN.out.2.2.2.1 _ _ _, HY.out.2.1.far3 HN.out.2.2.2.2 _ _ _, HY.out.2.2.set3⟩, ?_⟩
    clear hK K d00 d01 d02 e00 e01 e02 HY
    refine wpX_one 12 (by kernel_rfl) rfl rfl (fun wy hy K hK => ?_)
    go_simp
    refine hK _ _ ⟨_, (Know.stab w [(w3.heap.size + 1, p.obj), (w3.heap.size, q.obj), (w2.heap.size + 1, q.obj), (w2.heap.size, p.obj), (w.heap.size + 1, b.obj), (w.heap.size, a.obj)]).and ((Stab.blk g8 p.obj).and (Stab.blk g9 q.inv.obj)), fun _ h => h.1, hy, ?_⟩
    clear hK K hy
    refine wpX_done (by kernel_rfl) (fun wz hz => ?_) _
    have HZ := Lib.hid hz; clear hz
    go_wp2_with fail
    go_meet
    exact ⟨g8, g9, rfl, rfl, rfl, (HZ.out.1.cons HZ.out.2.2).cons HZ.out.2.1⟩
  case rest =>
    obtain ⟨g8, g9, rfl, rfl, rfl, hK⟩ := hcut
    have K4 := Lib.hid hK; clear hK
    cases ok
    case false =>
      go_wp2_with fail
      refine (awake_any _).mono ?_
      rintro e w4 ⟨rfl, hE⟩
      have HE := Lib.hid (K4.out.1.trans hE); clear hE
      go_wp2_with fail
      go_ret
      exact ⟨rfl, HE.out⟩
    obtain ⟨k1, k2⟩ := mergeV_like (mergeT_true H1.out)
    have RP := Lib.hid (rh_like HB.out k1); have RQ := Lib.hid (rh_like HA.out k2); clear k1 k2
    go_wp2_with fail
    refine wp_region_text (Know w [(g8, p.obj), (g9, q.inv.obj), (w3.heap.size + 1, p.obj), (w3.heap.size, q.obj), (w2.heap.size + 1, q.obj), (w2.heap.size, p.obj), (w.heap.size + 1, b.obj), (w.heap.size, a.obj)]) [0,1,2,3,4,5,6,7,8,9,10,11,12,13,14,15,16,17,18,19,20,21,22] (by kernel_rfl) (Know.stab _ _) K4.out.drew (by kernel_rfl) (fun _ d _ _ _ h => by cases d <;> exact h) ?_
    iterate 23
      refine wpTk_want rfl (Eq.refl true) ?_
      apply Exists.intro
      refine ⟨fun wx hx => ?_, ?_⟩
      · have HX := Lib.hid hx
        obtain ⟨d00, d01, d02⟩ := (hx.at 0 rfl).cells3
        obtain ⟨d10, d11, d12⟩ := (hx.at 1 rfl).cells3
        obtain ⟨d20, d21, d22⟩ := (hx.at 2 rfl).cells3
        obtain ⟨d30, d31, d32⟩ := (hx.at 3 rfl).cells3
        obtain ⟨d40, d41, d42⟩ := (hx.at 4 rfl).cells3
        obtain ⟨d50, d51, d52⟩ := (hx.at 5 rfl).cells3
        clear hx
        go_simp
        first
          | with_reducible exact gives_ok _ _ _
          | (have r := invert_is' q wx; with_reducible exact gives_call _ _ _ r)
          | (have r := sameHunk_is (AH.same_refl _) (RP.out.ext HX.out.1) (RP.out.ext HX.out.1); with_reducible exact gives_call _ _ _ r)
          | (have r := sameHunk_is (AH.same_refl _) (RQ.out.ext HX.out.1) (RQ.out.ext HX.out.1); with_reducible exact gives_call _ _ _ r)
          | (have r := sameHunk_is (AH.same_refl _) (rh_inv' (RQ.out.ext HX.out.1)) (rh_inv' (RQ.out.ext HX.out.1)); with_reducible exact gives_call _ _ _ r)
      simp only [Act.put, List.setIfInBounds_toArray, List.set_cons_zero, List.set_cons_succ]
    refine wpTk_nil ?_
    intro w4 hK
    have K5 := Lib.hid hK; clear hK K4
    obtain ⟨r1, hr1⟩ : ∃ r, (followV ls [x]).isSome = r := ⟨_, rfl⟩
    obtain ⟨r2, hr2⟩ : ∃ r, (followV ls [y]).isSome = r := ⟨_, rfl⟩
    have R1 := Lib.hid hr1; have R2 := Lib.hid hr2; clear hr1 hr2
    obtain ⟨c00, c01, c02⟩ := (K5.out.at 7 rfl).cells3
    go_wp2_with fail
    clear c00 c01 c02
    refine (follow1 _ (HL.out.ext K5.out.1) hnc (by omega) (HA.out.ext K5.out.1) (by omega) w4.heap.size rfl R1.out).mono ?_
    rintro e w5 ⟨hE, v1, rfl⟩
    have K6 := Lib.hid (K5.out.ext hE); clear hE K5
    obtain ⟨c00, c01, c02⟩ := (K6.out.at 6 rfl).cells3
    go_wp2_with fail
    clear c00 c01 c02
    refine (follow1 _ (HL.out.ext K6.out.1) hnc (by omega) (HB.out.ext K6.out.1) (by omega) w5.heap.size rfl R2.out).mono ?_
    rintro e w6 ⟨hE, v2, rfl⟩
    have K7 := Lib.hid (K6.out.ext hE); clear hE K6
    cases r1
    case false =>
      go_wp2_with fail
      refine (awake_any _).mono ?_
      rintro e w7 ⟨rfl, hE⟩
      have HE := Lib.hid (K7.out.1.trans hE); clear hE
      go_wp2_with fail
      go_ret
      exact ⟨rfl, HE.out⟩
    cases r2
    case false =>
      go_wp2_with fail
      refine (awake_any _).mono ?_
      rintro e w7 ⟨rfl, hE⟩
      have HE := Lib.hid (K7.out.1.trans hE); clear hE
      go_wp2_with fail
      go_ret
      exact ⟨rfl, HE.out⟩
    obtain ⟨l, f1, f2⟩ := both_is HA.out HB.out (mergeT_true H1.out) R1.out R2.out
    have F1 := Lib.hid f1; have F2 := Lib.hid f2; clear f1 f2
    obtain ⟨c00, c01, c02⟩ := (K7.out.at 7 rfl).cells3
    obtain ⟨c10, c11, c12⟩ := (K7.out.at 5 rfl).cells3
    go_wp2_with fail
    clear c00 c01 c02 c10 c11 c12
    refine (follow2_some _ (HL.out.ext K7.out.1) hnc (by omega) (HA.out.ext K7.out.1) (RP.out.ext K7.out.1) (by omega) (by simp only; omega) w6.heap.size rfl F1.out).mono ?_
    rintro e w7 ⟨hE, B, d, hld, hl2, hS, rfl⟩
    have K8 := Lib.hid (K7.out.ext hE); have HS := Lib.hid hS; clear hE hS K7
    obtain ⟨c00, c01, c02⟩ := (K8.out.at 6 rfl).cells3
    obtain ⟨c10, c11, c12⟩ := (K8.out.at 4 rfl).cells3
    go_wp2_with fail
    clear c00 c01 c02 c10 c11 c12
    refine (follow2_some _ (HL.out.ext K8.out.1) hnc (by omega) (HB.out.ext K8.out.1) (RQ.out.ext K8.out.1) (by omega) (by simp only; omega) w7.heap.size rfl F2.out).mono ?_
    rintro e w8 ⟨hE, B', d', hld', hl2', hS', rfl⟩
    have HS2 := Lib.hid (HS.out.ext hE); have HS' := Lib.hid hS'; have HE8 := Lib.hid (K8.out.1.trans hE); clear hE hS'
    go_wp2_with fail
    refine (equal_is (r := true) _ HS2.out HS'.out (by unfold Reach; omega) (by unfold Reach; omega) (by simp)).mono ?_
    rintro e w9 ⟨rfl, hE⟩
    have HE9 := Lib.hid (HE8.out.trans hE); clear hE
    go_wp2_with fail
    refine (awake_any _).mono ?_
    rintro e w10 ⟨rfl, hE⟩
    have HE10 := Lib.hid (HE9.out.trans hE); clear hE
    go_wp2_with fail
    go_ret
    exact ⟨rfl, HE10.out⟩
end Go.Proofs.Ytilogolnoifigaa

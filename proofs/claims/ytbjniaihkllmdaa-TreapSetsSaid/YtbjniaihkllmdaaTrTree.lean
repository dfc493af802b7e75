/- Contracts on maps of any form: count, wide, Size, several. -/
import Derived.Test.YtbjniaihkllmdaaTrLeaf
namespace Go.Proofs.Ytbjniaihkllmdaa
open Go.RowKit

def MT.size : MT → Nat
  | .nil => 0
  | .cons _ _ l r rest => l.size + r.size + rest.size + 1
def MT.wide : MT → Bool
  | .nil => false
  | .cons _ _ l r .nil => l.wide || r.wide
  | .cons _ _ _ _ (.cons _ _ _ _ _) => true
theorem MT.drop_size : ∀ (t : MT) (j : Nat), (t.drop j).size ≤ t.size
  | _, 0 => by simp [MT.drop]
  | .nil, _ + 1 => by simp [MT.drop]
  | .cons _ _ l r rest, j + 1 => by
    have := MT.drop_size rest j
    simp only [MT.drop, MT.size]; omega
theorem MT.at_size {t : MT} {j : Nat} {k v : ByteArray} {l r rest : MT} (h : t.drop j = .cons k v l r rest) : l.size + r.size + rest.size + 1 ≤ t.size ∧ (t.drop (j + 1)).size = rest.size ∧ (t.drop j).size = l.size + r.size + rest.size + 1 := by
  have h1 := MT.drop_size t j
  rw [h, MT.size] at h1
  exact ⟨h1, by rw [MT.drop_succ h], by rw [h, MT.size]⟩
theorem MT.drop_all {t : MT} {n : Nat} (h : t.len ≤ n) : (t.drop n).size = 0 := by
  have h1 := MT.drop_len t n
  cases e : t.drop n with
  | nil => rfl
  | cons k v l r rest => rw [e] at h1; simp only [MT.len] at h1; omega
theorem MT.narrow : ∀ {t : MT}, t.wide = false → ∃ b : BT, t = b.mt
  | .nil, _ => ⟨.leaf, rfl⟩
  | .cons k v l r .nil, h => by
    simp only [MT.wide, Bool.or_eq_false_iff] at h
    obtain ⟨a, ha⟩ := MT.narrow h.1
    obtain ⟨b, hb⟩ := MT.narrow h.2
    exact ⟨.node a k v b, by rw [BT.mt, ← ha, ← hb]⟩
  | .cons _ _ _ _ (.cons _ _ _ _ _), h => by simp [MT.wide] at h
theorem BT.mt_wide : ∀ b : BT, b.mt.wide = false
  | .leaf => rfl
  | .node l k v r => by simp [BT.mt, MT.wide, BT.mt_wide l, BT.mt_wide r]

set_option maxRecDepth 100000 in
set_option maxHeartbeats 8000000 in
theorem count_any : ∀ (N : Nat) (t : MT) (A : Option Addr) (n c k : Nat) (w : World), t.size < N → MapAt w t A n → k + t.size ≤ 20000 →
    Calls Try.prog 43 #[.slice A n c, .int .i64 k] w fun e w' => e = .returned (.int .i64 ((k + t.size : Nat) : Int)) ∧ Ext w w'
  | 0, _, _, _, _, _, _, h, _, _ => absurd h (by omega)
  | N + 1, t, A, n, c, k, w, hN, hm, hk => by
    have IH := count_any N
    have hnl := hm.2.1
    have hnR := hm.1
    unfold Reach at hnR
    have HM := Lib.hid hm; have HIH := Lib.hid IH; clear hm IH
    go_enter Try.func43, Try.ntmps43
    go_wp2_with fail
    go_loopw [1, 9] (fun v1 v9 wr => ∃ j p : Nat, j ≤ n ∧ v9 = .int .i64 j ∧ v1 = .int .i64 ((k + p : Nat) : Int) ∧ p + (t.drop j).size = t.size ∧ Ext w wr) (fun _ v9 _ => n - (intOf v9).toNat)
    case atStart => exact ⟨0, 0, Nat.zero_le _, rfl, rfl, by simp [MT.drop], Ext.refl _⟩
    case round =>
      obtain ⟨j, p, hj, rfl, rfl, hp, hE⟩ := hrel
      have HE := Lib.hid hE; clear hE
      by_cases hlt : j < n
      case neg =>
        have hz := MT.drop_all (t := t) (n := j) (by omega)
        rw [hz] at hp
        obtain rfl : p = t.size := by omega
        go_wp2_with fail
        go_ret
        exact ⟨rfl, HE.out⟩
      obtain ⟨b, off, key, val, l, r, rest, Al, nl, cl, Ar, nr, cr, hd, rfl, hb, hs, c0, c1, c2, c3, hl, hr⟩ := (HM.out.ext HE.out).at hlt
      obtain ⟨s1, s2, s3⟩ := MT.at_size hd
      have HL := Lib.hid hl; have HR := Lib.hid hr; clear hl hr hd hs
      obtain ⟨q, hq⟩ : ∃ q, k + p = q := ⟨_, rfl⟩
      rw [hq]
      have q1 : decide ((20000 : Int) < (q : Int) + 1) = false := nd (by omega)
      go_wp2_with fail
      clear c0 c1 c2 c3
      obtain ⟨gx, hgx⟩ : ∃ gx, wr.heap.size = gx := ⟨_, rfl⟩
      have hbx : Blk (wr.alloc (nodeObj key val Al nl cl Ar nr cr)).drew gx (nodeObj key val Al nl cl Ar nr cr) := (Blk.new wr _ hgx.symm).drew
      have hEx : Ext wr (wr.alloc (nodeObj key val Al nl cl Ar nr cr)).drew := ((Ext.refl wr).alloc _).drew
      rw [hgx]
      refine wp_region_text (fun wx => Ext wr wx ∧ Blk wx gx (nodeObj key val Al nl cl Ar nr cr)) [0,1,2,3,4,5,6,7] (by kernel_rfl) ((Stab.ext _).and (Stab.blk _ _)) ⟨hEx, hbx⟩ (by kernel_rfl) (fun _ d _ _ _ h => by cases d <;> exact h) ?_
      clear hbx hEx
      iterate 5
        refine wpTk_want rfl (Eq.refl true) ?_
        apply Exists.intro
        refine ⟨fun wx hx => ?_, ?_⟩
        · obtain ⟨d0, d1, d2, d3⟩ := hx.2.cells4
          clear hx
          go_simp
          with_reducible exact gives_ok _ _ _
        simp only [Act.put, List.setIfInBounds_toArray, List.set_cons_zero, List.set_cons_succ]
      refine wpTk_want rfl (Eq.refl true) ⟨.int .i64 ((q : Int) + 1 + l.size), fun wx hx => ?_, ?_⟩
      · have HX := Lib.hid hx; clear hx
        go_simp
        have r9 := HIH.out l Al nl cl (q + 1) wx (by omega) (HL.out.ext HX.out.1) (by omega)
        push_cast at r9
        with_reducible exact gives_call _ _ _ r9
      simp only [Act.put, List.setIfInBounds_toArray, List.set_cons_zero, List.set_cons_succ]
      refine wpTk_want rfl (Eq.refl true) ⟨.int .i64 ((q : Int) + 1 + l.size + r.size), fun wx hx => ?_, ?_⟩
      · have HX := Lib.hid hx; clear hx
        go_simp
        have r9 := HIH.out r Ar nr cr (q + 1 + l.size) wx (by omega) (HR.out.ext HX.out.1) (by omega)
        push_cast at r9
        with_reducible exact gives_call _ _ _ r9
      simp only [Act.put, List.setIfInBounds_toArray, List.set_cons_zero, List.set_cons_succ]
      refine wpTk_want rfl (Eq.refl true) ?_
      apply Exists.intro
      refine ⟨fun wx hx => ?_, ?_⟩
      · clear hx
        go_simp
        with_reducible exact gives_ok _ _ _
      simp only [Act.put, List.setIfInBounds_toArray, List.set_cons_zero, List.set_cons_succ]
      refine wpTk_nil ?_
      intro w5 hx
      have HX := Lib.hid hx.1; clear hx
      go_wp2_with fail
      go_roundw
      case rel => exact ⟨j + 1, p + 1 + l.size + r.size, by omega, by go_num, by congr 1; omega, by omega, HE.out.trans HX.out⟩
      case measure => simp [intOf]; omega
end Go.Proofs.Ytbjniaihkllmdaa

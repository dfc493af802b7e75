/- The iterator over the parts around the matches of a chain. -/
import Derived.Test.YtmmhbnlafcmloaaPaKeep
import Derived.Test.YtmmhbnlafcmloaaPaRng
import Derived.Test.YtmmhbnlafcmloaaMyDist
namespace Go.Proofs.Ytmmhbnlafcmloaa
open Go.RowKit

/-- A part of both lists. -/
structure Pt where
  a : Nat
  a' : Nat
  b : Nat
  b' : Nat
def Pt.val (p : Pt) : Value := .agg #[.int .i64 p.a, .int .i64 p.a', .int .i64 p.b, .int .i64 p.b']
abbrev Pt.obj (p : Pt) : Obj := .cells #[.int .i64 p.a, .int .i64 p.a', .int .i64 p.b, .int .i64 p.b'] 57
/-- What is yielded: the parts in front of the matches (with these), and the one behind the last. -/
def ptsV (p : Pt) : Nat → Nat → List Mt → List (Pt × Mt)
  | x, y, [] => [(⟨x, p.a', y, p.b'⟩, ⟨p.a', p.b', 0⟩)]
  | x, y, c :: cs => (⟨x, c.a.toNat + p.a, y, c.b.toNat + p.b⟩, ⟨c.a + p.a, c.b + p.b, c.n⟩) :: ptsV p (c.a.toNat + p.a + 1) (c.b.toNat + p.b + 1) cs
def EncP (x : Pt × Mt) (vs : Array Value) (_ : Nat → Prop) (_ : World) : Prop := vs = #[x.1.val, x.2.val]
/-- What the iterator knows: the part's box and the chain's, and the chain. -/
structure Kp (p : Pt) (C : Option Addr) (n c : Nat) (cs : List Mt) (gp gc : Nat) (W : World) : Prop where
  bp : Blk W gp p.obj
  bc : Blk W gc (.cells #[.slice C n c] 25 (0, 0))
  sc : Mts W C n cs
theorem Blk.cells4 {w : World} {g : Nat} {t : TypeId} {x y z u : Value} (h : Blk w g (.cells #[x, y, z, u] t (0, 0))) : w.cell? ⟨g, 0, none⟩ = some x ∧ w.cell? ⟨g, 1, none⟩ = some y ∧ w.cell? ⟨g, 2, none⟩ = some z ∧ w.cell? ⟨g, 3, none⟩ = some u :=
  ⟨h.cell 0, h.cell 1, h.cell 2, h.cell 3⟩

set_option maxRecDepth 100000 in
set_option maxHeartbeats 8000000 in
theorem parts_iter (p : Pt) (C : Option Addr) (n c : Nat) (cs : List Mt) (gp gc : Nat) (X : Nat → Prop) (w0 : World) (hKn : ∀ W, Lv X w0 W → Kp p C n c cs gp gc W) (hn : n ≤ 1000) (hp : p.a ≤ 1000 ∧ p.a' ≤ 1000 ∧ p.b ≤ 1000 ∧ p.b' ≤ 1000) (hcs : ∀ m ∈ cs, (0 ≤ m.a ∧ m.a ≤ 1000) ∧ (0 ≤ m.b ∧ m.b ≤ 1000)) :
    Iter2 Try.prog 51 #[.pointer (some ⟨gp, 0, none⟩), .pointer (some ⟨gc, 0, none⟩)] EncP (ptsV p p.a p.b cs) (PreT X w0) := by
  obtain ⟨pa, pa', pb, pb'⟩ := p
  obtain ⟨hp1, hp2, hp3, hp4⟩ := hp
  dsimp only at hp1 hp2 hp3 hp4
  intro ly J Jx S W hP hSz hJ hJx hY h0
  have HP := Lib.hid hP; have HJ := Lib.hid hJ; have HJX := Lib.hid hJx; have HY := Lib.hid hY; have H0 := Lib.hid h0; have HZ := Lib.hid hSz; have HK := Lib.hid hKn; have HCS := Lib.hid hcs; clear hP hSz hJ hJx hY h0 hKn hcs
  refine callsIn_wide.2 ?_
  simp only [List.append_toArray, List.cons_append, List.nil_append]
  obtain rfl : cs.length = n := (HK.out _ HP.out.1).sc.1
  have K := Lib.hid (HK.out _ HP.out.1)
  obtain ⟨c0, c1, c2, c3⟩ := K.out.bp.cells4
  have c4 := K.out.bc.cell 0
  replace c4 : W.cell? ⟨gc, 0, none⟩ = some (.slice C cs.length c) := c4
  have hgp := K.out.bp.lt; have hgc := K.out.bc.lt
  go_enter Try.func51, Try.ntmps51
  go_wp2_with fail
  obtain ⟨gr, hgr⟩ : ∃ gr, gr = W.heap.size := ⟨_, rfl⟩
  obtain ⟨w1, hw1, hb1, hE1⟩ : ∃ w1, w1 = W.alloc (Pt.obj ⟨pa, pa', pb, pb'⟩) ∧ Blk w1 gr (Pt.obj ⟨pa, pa', pb, pb'⟩) ∧ Ext W w1 := ⟨_, rfl, Blk.new W _ hgr, (Ext.refl W).alloc _⟩
  rw [← hw1, ← hgr]
  have hgr0 : w0.heap.size ≤ gr := by have := HP.out.1.size; omega
  have HB1 := Lib.hid hb1; have HE1 := Lib.hid hE1; have HGR := Lib.hid hgr; have HGR0 := Lib.hid hgr0
  clear hw1 hb1 hE1 hgr hgr0 c0 c1 c2 c3 c4
  go_loopw [10] (fun v10 wr => ∃ (j x y : Nat) (pre : List (Pt × Mt)) (S' : Nat → Prop), j ≤ cs.length ∧ x ≤ 2001 ∧ y ≤ 2001 ∧ v10 = .int .i64 j ∧ pre ++ ptsV ⟨pa, pa', pb, pb'⟩ x y (cs.drop j) = ptsV ⟨pa, pa', pb, pb'⟩ pa pb cs ∧ J pre S' wr ∧ PreT X w0 S' wr ∧ (∀ h, S' h → h < wr.heap.size) ∧ Blk wr gr (Pt.obj ⟨x, pa', y, pb'⟩) ∧ ¬ S' gr) (fun v10 _ => cs.length - (intOf v10).toNat)
  case atStart =>
    refine ⟨0, pa, pb, [], S, Nat.zero_le _, by omega, by omega, rfl, rfl, HJ.out _ _ _ _ H0.out (Lv.of_ext HE1.out), ⟨HP.out.1.ext HE1.out, HP.out.2⟩, fun h hh => Nat.lt_of_lt_of_le (HZ.out _ hh) HE1.out.size, HB1.out, fun h => ?_⟩
    have := HZ.out _ h; have := HGR.out; omega
  clear HB1
  case round =>
    obtain ⟨j, x, y, pre, S1, hj, hx, hy, rfl, hpt, hJ1, hP1, hz1, hb1, hng⟩ := hrel
    have HPT := Lib.hid hpt; have HJ1 := Lib.hid hJ1; have HP1 := Lib.hid hP1; have HZ1 := Lib.hid hz1; have HB1 := Lib.hid hb1; have HNG := Lib.hid hng
    clear hpt hJ1 hP1 hz1 hb1 hng
    have KR := Lib.hid (HK.out _ HP1.out.1)
    obtain ⟨c0, c1, c2, c3⟩ := KR.out.bp.cells4
    obtain ⟨r0, r1, r2, r3⟩ := HB1.out.cells4
    have lgr := HB1.out.lt; have lgp := KR.out.bp.lt
    by_cases hjl : j < cs.length
    case pos =>
      obtain ⟨ba, oa, ⟨ca, cb, cn⟩, hC, hba, hm, hwf, d0, d1, d2⟩ := KR.out.sc.get hjl
      subst hC
      obtain ⟨⟨m1, m2⟩, ⟨m3, m4⟩⟩ := HCS.out _ (List.mem_of_getElem? hm)
      dsimp only at m1 m2 m3 m4 d0 d1 d2
      obtain ⟨ca, rfl⟩ : ∃ k : Nat, ca = k := ⟨ca.toNat, by omega⟩
      obtain ⟨cb, rfl⟩ : ∃ k : Nat, cb = k := ⟨cb.toNat, by omega⟩
      have hpt := HPT.out
      rw [drop_of hm, ptsV] at hpt
      simp only [Int.toNat_natCast] at hpt
      have HPT2 := Lib.hid hpt
      clear hpt hm hwf
      have f1 : gr ≠ wr.heap.size := by omega
      have f2 : gp ≠ wr.heap.size := by omega
      go_wp2_with fail
      go_region
      rename ∀ a w, Code.wp Try.prog (((Code.region 5 _ _).seq _).seq _) _ a w → _ => hK3
      have HK3 := Lib.hid hK3; clear hK3
      go_wp2_with fail
      refine HK3.out _ _ ?_
      clear HK3 c0 c1 c2 c3 r0 r1 r2 r3 d0 d1 d2
      obtain ⟨w2, hw2, hbx, hE2⟩ : ∃ w2, w2 = (wr.alloc (Mt.obj ⟨(ca : Int) + pa, (cb : Int) + pb, cn⟩)).drew ∧ Blk w2 wr.heap.size (Mt.obj ⟨(ca : Int) + pa, (cb : Int) + pb, cn⟩) ∧ Ext wr w2 := ⟨_, rfl, (Blk.new wr _ rfl).drew, ((Ext.refl wr).alloc _).drew⟩
      rw [← hw2]
      have hJ2 := HJ.out _ _ _ _ HJ1.out ((Lv.of_ext (S := fun g => W.heap.size ≤ g ∧ ¬ S1 g) hE2))
      have hpx : pre ++ [((⟨x, ca + pa, y, cb + pb⟩ : Pt), (⟨(ca : Int) + pa, (cb : Int) + pb, cn⟩ : Mt))] <+: ptsV ⟨pa, pa', pb, pb'⟩ pa pb cs := ⟨_, by rw [← HPT2.out, List.append_assoc]; rfl⟩
      have hR := HY.out pre _ #[Pt.val ⟨x, ca + pa, y, cb + pb⟩, Mt.val ⟨(ca : Int) + pa, (cb : Int) + pb, cn⟩] S1 w2 hJ2 hpx rfl
      have HR := Lib.hid hR; have HBX := Lib.hid hbx; have HE2 := Lib.hid hE2; have HPX := Lib.hid hpx
      have HB2 := Lib.hid (HB1.out.ext hE2)
      clear hw2 hJ2 hpx hR hbx hE2
      obtain ⟨r0, r1, r2, r3⟩ := HB2.out.cells4
      obtain ⟨x0, x1, x2⟩ := HBX.out.cells3
      refine wp_of_In ?_
      obtain ⟨fn, tmps, assign, body, hy, hRR⟩ := HR.out
      simp only [Pt.val, Mt.val] at hy
      push_cast at hy
      gi_wp2
      refine ⟨rfl, hRR.mono ?_⟩
      rintro e W2 ⟨S3, hv2, hs2, hz2, (⟨rfl, hJ2⟩ | ⟨rfl, hJx2⟩)⟩
      case inr =>
        clear hy hRR r0 r1 r2 r3 x0 x1 x2
        have HX := Lib.hid hJx2; clear hv2 hs2 hz2 hJx2
        gi_wp2
        go_wp2_with fail
        refine bodyPost_ret (results_none rfl _ _ _) rfl ?_
        exact ⟨⟨_, rfl⟩, .inr ⟨_, _, HPX.out, HX.out⟩⟩
      case inl =>
        have hnx : ¬ S1 wr.heap.size := fun h => by have := HZ1.out _ h; omega
        have hb3 := HB2.out.lv hv2 HNG.out
        have hbx3 := HBX.out.lv hv2 hnx
        have hsz2 := HE2.out.size
        have hng3 : ¬ S3 gr := fun h => (hs2 _ h).elim HNG.out (by omega)
        have hlv : Lv X w0 W2 := (HP1.out.1.ext HE2.out).trans hv2 (fun g hg h => HP1.out.2 g hg h)
        have hP3 : PreT X w0 S3 W2 := ⟨hlv, fun h hh hs => (hs2 h hs).elim (fun h' => HP1.out.2 h hh h') (fun h' => by have := HP1.out.1.size; omega)⟩
        have HB3 := Lib.hid hb3; have HP3 := Lib.hid hP3; have HZ3 := Lib.hid hz2; have HJ3 := Lib.hid hJ2; have HNG3 := Lib.hid hng3
        have hWs : W.heap.size ≤ gr := by have := HGR.out; omega
        clear hy hRR r0 r1 r2 r3 x0 x1 x2 hv2 hs2 hz2 hJ2 hnx hsz2 hlv hP3 hng3 HP1 HZ1 HB1 HJ1 HR
        obtain ⟨r0, r1, r2, r3⟩ := hb3.cells4
        obtain ⟨x0, x1, x2⟩ := hbx3.cells3
        have fz0 := hb3.free 0; have fz1 := hb3.free 2
        clear hb3 hbx3
        gi_wp2
        refine wpIn_wide.2 ?_
        go_region
        go_wp2_with fail
        go_roundw
        case rel =>
          have hset : Lv (fun g => W.heap.size ≤ g ∧ ¬ S3 g) W2 ((W2.setCell ⟨gr, 0, none⟩ (.int .i64 ((ca : Int) + pa + 1))).setCell ⟨gr, 2, none⟩ (.int .i64 ((cb : Int) + pb + 1))).drew := (((Lv.refl _ _).setCell (p := ⟨gr, 0, none⟩) (fun _ => ⟨hWs, HNG3.out⟩) _).setCell (p := ⟨gr, 2, none⟩) (fun _ => ⟨hWs, HNG3.out⟩) _).drew
          have hb4 := (HB3.out.put 0 (.int .i64 ((ca : Int) + pa + 1))).put 2 (.int .i64 ((cb : Int) + pb + 1))
          refine ⟨j + 1, ca + pa + 1, cb + pb + 1, pre ++ [((⟨x, ca + pa, y, cb + pb⟩ : Pt), (⟨(ca : Int) + pa, (cb : Int) + pb, cn⟩ : Mt))], S3, by omega, by omega, by omega, by go_num, ?_, HJ.out _ _ _ _ HJ3.out hset, ⟨HP3.out.1.trans hset (fun g hg h => by have := HGR0.out; have := h.1; have := HGR.out; omega), HP3.out.2⟩, fun h hh => Nat.lt_of_lt_of_le (HZ3.out h hh) hset.size, ?_, HNG3.out⟩
          · rw [← HPT2.out, List.append_assoc]; rfl
          · have h5 := hb4.drew
            simp only [List.setIfInBounds_toArray, List.set_cons_zero, List.set_cons_succ] at h5
            show Blk _ gr (.cells #[.int .i64 ((ca + pa + 1 : Nat) : Int), .int .i64 pa', .int .i64 ((cb + pb + 1 : Nat) : Int), .int .i64 pb'] 57)
            rw [show ((ca + pa + 1 : Nat) : Int) = (ca : Int) + pa + 1 by omega, show ((cb + pb + 1 : Nat) : Int) = (cb : Int) + pb + 1 by omega]
            exact h5
        case measure => simp [intOf]; omega
    case neg =>
      obtain rfl : j = cs.length := by omega
      have hpt := HPT.out
      rw [List.drop_length, ptsV] at hpt
      rename ∀ a w, Code.wp Try.prog (Code.region 8 _ _) _ a w → _ => hK3
      have HK3 := Lib.hid hK3; clear hK3
      have HPT2 := Lib.hid hpt; clear hpt
      go_wp2_with fail
      refine HK3.out _ _ ?_
      clear HK3
      have hpx : pre ++ [((⟨x, pa', y, pb'⟩ : Pt), (⟨pa', pb', 0⟩ : Mt))] <+: ptsV ⟨pa, pa', pb, pb'⟩ pa pb cs := ⟨[], by rw [List.append_nil]; exact HPT2.out⟩
      have hR := HY.out pre _ #[Pt.val ⟨x, pa', y, pb'⟩, Mt.val ⟨pa', pb', 0⟩] S1 wr HJ1.out hpx rfl
      have HR := Lib.hid hR; have HPX := Lib.hid hpx
      clear hpx hR
      refine wp_of_In ?_
      obtain ⟨fn, tmps, assign, body, hy, hRR⟩ := HR.out
      simp only [Pt.val, Mt.val] at hy
      gi_wp2
      refine ⟨rfl, hRR.mono ?_⟩
      rintro e W2 ⟨S3, hv2, hs2, hz2, (⟨rfl, hJ2⟩ | ⟨rfl, hJx2⟩)⟩
      case inr =>
        clear hy hRR c0 c1 c2 c3 r0 r1 r2 r3
        have HX := Lib.hid hJx2; clear hv2 hs2 hz2 hJx2
        gi_wp2
        go_wp2_with fail
        refine bodyPost_end (results_none rfl _ _ _) rfl ?_
        exact ⟨⟨_, rfl⟩, .inr ⟨_, _, HPX.out, HX.out⟩⟩
      case inl =>
        clear hy hRR c0 c1 c2 c3 r0 r1 r2 r3
        rw [HPT2.out] at hJ2
        have HX := Lib.hid hJ2; clear hv2 hs2 hz2 hJ2
        gi_wp2
        go_wp2_with fail
        refine bodyPost_end (results_none rfl _ _ _) rfl ?_
        exact ⟨⟨_, rfl⟩, .inl ⟨_, HX.out⟩⟩
end Go.Proofs.Ytmmhbnlafcmloaa

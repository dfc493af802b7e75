/- PaIter PaTail PaLong: parts of the proof of TopDifferences, one text behind the other. No condition. -/
import Derived.Test.YtmmcjcaccicheaaGreatDoorT12
import Derived.Test.YtmmcjcaccicheaaGreatDoorT09
import Derived.Test.YtmmcjcaccicheaaGreatDoorT05
import Derived.Laws.OwnMore
/- The iterator over the parts around the matches of a chain. -/
namespace Go.Proofs.YtmmcjcaccicheaaGreatDoor
open Go.RowKit

/-- A part of both lists. -/
structure Pt where
  a : Nat
  a' : Nat
  b : Nat
  b' : Nat
def Pt.val (p : Pt) : Value := .agg #[.int .i64 p.a, .int .i64 p.a', .int .i64 p.b, .int .i64 p.b']
abbrev Pt.obj (p : Pt) : Obj := .cells #[.int .i64 p.a, .int .i64 p.a', .int .i64 p.b, .int .i64 p.b'] 111
/-- What is yielded: the parts in front of the matches (with these), and the one behind the last. -/
def ptsV (p : Pt) : Nat → Nat → List Mt → List (Pt × Mt)
  | x, y, [] => [(⟨x, p.a', y, p.b'⟩, ⟨p.a', p.b', 0⟩)]
  | x, y, c :: cs => (⟨x, c.a.toNat + p.a, y, c.b.toNat + p.b⟩, ⟨c.a + p.a, c.b + p.b, c.n⟩) :: ptsV p (c.a.toNat + p.a + 1) (c.b.toNat + p.b + 1) cs
def EncP (x : Pt × Mt) (vs : Array Value) (_ : Nat → Prop) (_ : World) : Prop := vs = #[x.1.val, x.2.val]
/-- What the iterator knows: the part's box and the chain's, and the chain. -/
structure Kp (p : Pt) (C : Option Addr) (n c : Nat) (cs : List Mt) (gp gc : Nat) (W : World) : Prop where
  bp : Blk W gp p.obj
  bc : Blk W gc (.cells #[.slice C n c] 66 (0, 0))
  sc : Mts W C n cs
theorem Blk.cells4 {w : World} {g : Nat} {t : TypeId} {x y z u : Value} (h : Blk w g (.cells #[x, y, z, u] t (0, 0))) : w.cell? ⟨g, 0, none⟩ = some x ∧ w.cell? ⟨g, 1, none⟩ = some y ∧ w.cell? ⟨g, 2, none⟩ = some z ∧ w.cell? ⟨g, 3, none⟩ = some u :=
  ⟨h.cell 0, h.cell 1, h.cell 2, h.cell 3⟩

set_option maxRecDepth 100000 in
set_option maxHeartbeats 8000000 in
theorem parts_iter (p : Pt) (C : Option Addr) (n c : Nat) (cs : List Mt) (gp gc : Nat) (X : Nat → Prop) (w0 : World) (hKn : ∀ W, Lv X w0 W → Kp p C n c cs gp gc W) (hn : n ≤ 1000) (hp : p.a ≤ 1000 ∧ p.a' ≤ 1000 ∧ p.b ≤ 1000 ∧ p.b' ≤ 1000) (hcs : ∀ m ∈ cs, (0 ≤ m.a ∧ m.a ≤ 1000) ∧ (0 ≤ m.b ∧ m.b ≤ 1000)) :
    Iter2 Tryz.prog 107 #[.pointer (some ⟨gp, 0, none⟩), .pointer (some ⟨gc, 0, none⟩)] EncP (ptsV p p.a p.b cs) (PreT X w0) := by
  obtain ⟨pa, pa', pb, pb'⟩ := p
  obtain ⟨hp1, hp2, hp3, hp4⟩ := hp
  dsimp only at hp1 hp2 hp3 hp4
  intro ly J Jx S W hP hSz hJ hJx hY h0
  have HP := Lib.hid hP; have HJ := Lib.hid hJ; have HJX := Lib.hid hJx; have HY := Lib.hid hY; have H0 := Lib.hid h0; have HZ := Lib.hid hSz; have HK := Lib.hid hKn; have HCS := Lib.hid hcs; clear hP hSz hJ hJx hY h0 hKn hcs
  refine callsIn_wide.2 ?_
  simp only [List.append_toArray, List.cons_append, List.nil_append]
  obtain rfl : cs.length = n := (HK.out _ HP.out.1).sc.1
  have K := Lib.hid (HK.out _ HP.out.1)
  obtain ⟨c0, c1, c2, c3⟩ := K.out.bp.cells4
  have c4 := K.out.bc.cell 0
  replace c4 : W.cell? ⟨gc, 0, none⟩ = some (.slice C cs.length c) := c4
  have hgp := K.out.bp.lt; have hgc := K.out.bc.lt
  go_enter Tryz.func107, Tryz.ntmps107
  go_wp2_with fail
  obtain ⟨gr, hgr⟩ : ∃ gr, gr = W.heap.size := ⟨_, rfl⟩
  obtain ⟨w1, hw1, hb1, hE1⟩ : ∃ w1, w1 = W.alloc (Pt.obj ⟨pa, pa', pb, pb'⟩) ∧ Blk w1 gr (Pt.obj ⟨pa, pa', pb, pb'⟩) ∧ Ext W w1 := ⟨_, rfl, Blk.new W _ hgr, (Ext.refl W).alloc _⟩
  rw [← hw1, ← hgr]
  have hgr0 : w0.heap.size ≤ gr := by have := HP.out.1.size; omega
  have HB1 := Lib.hid hb1; have HE1 := Lib.hid hE1; have HGR := Lib.hid hgr; have HGR0 := Lib.hid hgr0
  clear hw1 hb1 hE1 hgr hgr0 c0 c1 c2 c3 c4
  go_loopw [10] (fun v10 wr => ∃ (j x y : Nat) (pre : List (Pt × Mt)) (S' : Nat → Prop), j ≤ cs.length ∧ x ≤ 2001 ∧ y ≤ 2001 ∧ v10 = .int .i64 j ∧ pre ++ ptsV ⟨pa, pa', pb, pb'⟩ x y (cs.drop j) = ptsV ⟨pa, pa', pb, pb'⟩ pa pb cs ∧ J pre S' wr ∧ PreT X w0 S' wr ∧ (∀ h, S' h → h < wr.heap.size) ∧ Blk wr gr (Pt.obj ⟨x, pa', y, pb'⟩) ∧ ¬ S' gr) (fun v10 _ => cs.length - (intOf v10).toNat)
  case atStart =>
    refine ⟨0, pa, pb, [], S, Nat.zero_le _, by omega, by omega, rfl, rfl, HJ.out _ _ _ _ H0.out (Lv.of_ext HE1.out), ⟨HP.out.1.ext HE1.out, HP.out.2⟩, fun h hh => Nat.lt_of_lt_of_le (HZ.out _ hh) HE1.out.size, HB1.out, fun h => ?_⟩
    have := HZ.out _ h; have := HGR.out; omega
  clear HB1
  case round =>
    obtain ⟨j, x, y, pre, S1, hj, hx, hy, rfl, hpt, hJ1, hP1, hz1, hb1, hng⟩ := hrel
    have HPT := Lib.hid hpt; have HJ1 := Lib.hid hJ1; have HP1 := Lib.hid hP1; have HZ1 := Lib.hid hz1; have HB1 := Lib.hid hb1; have HNG := Lib.hid hng
    clear hpt hJ1 hP1 hz1 hb1 hng
    have KR := Lib.hid (HK.out _ HP1.out.1)
    obtain ⟨c0, c1, c2, c3⟩ := KR.out.bp.cells4
    obtain ⟨r0, r1, r2, r3⟩ := HB1.out.cells4
    have lgr := HB1.out.lt; have lgp := KR.out.bp.lt
    by_cases hjl : j < cs.length
    case pos =>
      obtain ⟨ba, oa, ⟨ca, cb, cn⟩, hC, hba, hm, hwf, d0, d1, d2⟩ := KR.out.sc.get hjl
      subst hC
      obtain ⟨⟨m1, m2⟩, ⟨m3, m4⟩⟩ := HCS.out _ (List.mem_of_getElem? hm)
      dsimp only at m1 m2 m3 m4 d0 d1 d2
      obtain ⟨ca, rfl⟩ : ∃ k : Nat, ca = k := ⟨ca.toNat, by omega⟩
      obtain ⟨cb, rfl⟩ : ∃ k : Nat, cb = k := ⟨cb.toNat, by omega⟩
      have hpt := HPT.out
      rw [drop_of hm, ptsV] at hpt
      simp only [Int.toNat_natCast] at hpt
      have HPT2 := Lib.hid hpt
      clear hpt hm hwf
      have f1 : gr ≠ wr.heap.size := by omega
      have f2 : gp ≠ wr.heap.size := by omega
      go_wp2_with fail
      go_region
      rename ∀ a w, Code.wp Tryz.prog (((Code.region 5 _ _).seq _).seq _) _ a w → _ => hK3
      have HK3 := Lib.hid hK3; clear hK3
      go_wp2_with fail
      refine HK3.out _ _ ?_
      clear HK3 c0 c1 c2 c3 r0 r1 r2 r3 d0 d1 d2
      obtain ⟨w2, hw2, hbx, hE2⟩ : ∃ w2, w2 = (wr.alloc (Mt.obj ⟨(ca : Int) + pa, (cb : Int) + pb, cn⟩)).drew ∧ Blk w2 wr.heap.size (Mt.obj ⟨(ca : Int) + pa, (cb : Int) + pb, cn⟩) ∧ Ext wr w2 := ⟨_, rfl, (Blk.new wr _ rfl).drew, ((Ext.refl wr).alloc _).drew⟩
      rw [← hw2]
      have hJ2 := HJ.out _ _ _ _ HJ1.out ((Lv.of_ext (S := fun g => W.heap.size ≤ g ∧ ¬ S1 g) hE2))
      have hpx : pre ++ [((⟨x, ca + pa, y, cb + pb⟩ : Pt), (⟨(ca : Int) + pa, (cb : Int) + pb, cn⟩ : Mt))] <+: ptsV ⟨pa, pa', pb, pb'⟩ pa pb cs := ⟨_, by rw [← HPT2.out, List.append_assoc]; rfl⟩
      have hR := HY.out pre _ #[Pt.val ⟨x, ca + pa, y, cb + pb⟩, Mt.val ⟨(ca : Int) + pa, (cb : Int) + pb, cn⟩] S1 w2 hJ2 hpx rfl
      have HR := Lib.hid hR; have HBX := Lib.hid hbx; have HE2 := Lib.hid hE2; have HPX := Lib.hid hpx
      have HB2 := Lib.hid (HB1.out.ext hE2)
      clear hw2 hJ2 hpx hR hbx hE2
      obtain ⟨r0, r1, r2, r3⟩ := HB2.out.cells4
      obtain ⟨x0, x1, x2⟩ := HBX.out.cells3
      refine wp_of_In ?_
      obtain ⟨fn, tmps, assign, body, hy, hRR⟩ := HR.out
      simp only [Pt.val, Mt.val] at hy
      push_cast at hy
      gi_wp2
      refine ⟨rfl, hRR.mono ?_⟩
      rintro e W2 ⟨S3, hv2, hs2, hz2, (⟨rfl, hJ2⟩ | ⟨rfl, hJx2⟩)⟩
      case inr =>
        clear hy hRR r0 r1 r2 r3 x0 x1 x2
        have HX := Lib.hid hJx2; clear hv2 hs2 hz2 hJx2
        gi_wp2
        go_wp2_with fail
        refine bodyPost_ret (results_none rfl _ _ _) rfl ?_
        exact ⟨⟨_, rfl⟩, .inr ⟨_, _, HPX.out, HX.out⟩⟩
      case inl =>
        have hnx : ¬ S1 wr.heap.size := fun h => by have := HZ1.out _ h; omega
        have hb3 := HB2.out.lv hv2 HNG.out
        have hbx3 := HBX.out.lv hv2 hnx
        have hsz2 := HE2.out.size
        have hng3 : ¬ S3 gr := fun h => (hs2 _ h).elim HNG.out (by omega)
        have hlv : Lv X w0 W2 := (HP1.out.1.ext HE2.out).trans hv2 (fun g hg h => HP1.out.2 g hg h)
        have hP3 : PreT X w0 S3 W2 := ⟨hlv, fun h hh hs => (hs2 h hs).elim (fun h' => HP1.out.2 h hh h') (fun h' => by have := HP1.out.1.size; omega)⟩
        have HB3 := Lib.hid hb3; have HP3 := Lib.hid hP3; have HZ3 := Lib.hid hz2; have HJ3 := Lib.hid hJ2; have HNG3 := Lib.hid hng3
        have hWs : W.heap.size ≤ gr := by have := HGR.out; omega
        clear hy hRR r0 r1 r2 r3 x0 x1 x2 hv2 hs2 hz2 hJ2 hnx hsz2 hlv hP3 hng3 HP1 HZ1 HB1 HJ1 HR
        obtain ⟨r0, r1, r2, r3⟩ := hb3.cells4
        obtain ⟨x0, x1, x2⟩ := hbx3.cells3
        have fz0 := hb3.free 0; have fz1 := hb3.free 2
        clear hb3 hbx3
        gi_wp2
        refine wpIn_wide.2 ?_
        go_region
        go_wp2_with fail
        go_roundw
        case rel =>
          have hset : Lv (fun g => W.heap.size ≤ g ∧ ¬ S3 g) W2 ((W2.setCell ⟨gr, 0, none⟩ (.int .i64 ((ca : Int) + pa + 1))).setCell ⟨gr, 2, none⟩ (.int .i64 ((cb : Int) + pb + 1))).drew := (((Lv.refl _ _).setCell (p := ⟨gr, 0, none⟩) (fun _ => ⟨hWs, HNG3.out⟩) _).setCell (p := ⟨gr, 2, none⟩) (fun _ => ⟨hWs, HNG3.out⟩) _).drew
          have hb4 := (HB3.out.put 0 (.int .i64 ((ca : Int) + pa + 1))).put 2 (.int .i64 ((cb : Int) + pb + 1))
          refine ⟨j + 1, ca + pa + 1, cb + pb + 1, pre ++ [((⟨x, ca + pa, y, cb + pb⟩ : Pt), (⟨(ca : Int) + pa, (cb : Int) + pb, cn⟩ : Mt))], S3, by omega, by omega, by omega, by go_num, ?_, HJ.out _ _ _ _ HJ3.out hset, ⟨HP3.out.1.trans hset (fun g hg h => by have := HGR0.out; have := h.1; have := HGR.out; omega), HP3.out.2⟩, fun h hh => Nat.lt_of_lt_of_le (HZ3.out h hh) hset.size, ?_, HNG3.out⟩
          · rw [← HPT2.out, List.append_assoc]; rfl
          · have h5 := hb4.drew
            simp only [List.setIfInBounds_toArray, List.set_cons_zero, List.set_cons_succ] at h5
            show Blk _ gr (.cells #[.int .i64 ((ca + pa + 1 : Nat) : Int), .int .i64 pa', .int .i64 ((cb + pb + 1 : Nat) : Int), .int .i64 pb'] 111)
            rw [show ((ca + pa + 1 : Nat) : Int) = (ca : Int) + pa + 1 by omega, show ((cb + pb + 1 : Nat) : Int) = (cb : Int) + pb + 1 by omega]
            exact h5
        case measure => simp [intOf]; omega
    case neg =>
      obtain rfl : j = cs.length := by omega
      have hpt := HPT.out
      rw [List.drop_length, ptsV] at hpt
      rename ∀ a w, Code.wp Tryz.prog (Code.region 8 _ _) _ a w → _ => hK3
      have HK3 := Lib.hid hK3; clear hK3
      have HPT2 := Lib.hid hpt; clear hpt
      go_wp2_with fail
      refine HK3.out _ _ ?_
      clear HK3
      have hpx : pre ++ [((⟨x, pa', y, pb'⟩ : Pt), (⟨pa', pb', 0⟩ : Mt))] <+: ptsV ⟨pa, pa', pb, pb'⟩ pa pb cs := ⟨[], by rw [List.append_nil]; exact HPT2.out⟩
      have hR := HY.out pre _ #[Pt.val ⟨x, pa', y, pb'⟩, Mt.val ⟨pa', pb', 0⟩] S1 wr HJ1.out hpx rfl
      have HR := Lib.hid hR; have HPX := Lib.hid hpx
      clear hpx hR
      refine wp_of_In ?_
      obtain ⟨fn, tmps, assign, body, hy, hRR⟩ := HR.out
      simp only [Pt.val, Mt.val] at hy
      gi_wp2
      refine ⟨rfl, hRR.mono ?_⟩
      rintro e W2 ⟨S3, hv2, hs2, hz2, (⟨rfl, hJ2⟩ | ⟨rfl, hJx2⟩)⟩
      case inr =>
        clear hy hRR c0 c1 c2 c3 r0 r1 r2 r3
        have HX := Lib.hid hJx2; clear hv2 hs2 hz2 hJx2
        gi_wp2
        go_wp2_with fail
        refine bodyPost_end (results_none rfl _ _ _) rfl ?_
        exact ⟨⟨_, rfl⟩, .inr ⟨_, _, HPX.out, HX.out⟩⟩
      case inl =>
        clear hy hRR c0 c1 c2 c3 r0 r1 r2 r3
        rw [HPT2.out] at hJ2
        have HX := Lib.hid hJ2; clear hv2 hs2 hz2 hJ2
        gi_wp2
        go_wp2_with fail
        refine bodyPost_end (results_none rfl _ _ _) rfl ?_
        exact ⟨⟨_, rfl⟩, .inl ⟨_, HX.out⟩⟩
end Go.Proofs.YtmmcjcaccicheaaGreatDoor
/- Contract: tails. -/
namespace Go.Proofs.YtmmcjcaccicheaaGreatDoor
open Go.RowKit

theorem infoI' : (Tryz.prog.info? 3).map (fun i => (i.zero, i.size, i.bytes)) = some (some (.int .i64 0), 1, 8) := by kernel_rfl
theorem underI' : Tryz.prog.underlying 49 = some (.slice 3) := by kernel_rfl
/-- The numbers in memory: q zeros, then t. -/
def tcells (q : Nat) (t : List Nat) : List Value := List.replicate q (.int .i64 0) ++ t.map fun n : Nat => Value.int .i64 (n : Int)
theorem tcells_len (q : Nat) (t : List Nat) : (tcells q t).length = q + t.length := by simp [tcells]
theorem tcells_get {q : Nat} {t : List Nat} {j n : Nat} (h : t[j]? = some n) : (tcells q t)[q + j]? = some (.int .i64 (n : Int)) := by
  unfold tcells
  rw [List.getElem?_append_right (by simp)]
  simp [h]
theorem tcells_set (q : Nat) (t : List Nat) (x : Nat) : (tcells (q + 1) t).set q (.int .i64 (x : Int)) = tcells q (x :: t) := by
  unfold tcells
  rw [List.replicate_succ', List.append_assoc, List.set_append_right _ _ (by simp)]
  simp
theorem tcells_put (q : Nat) (t : List Nat) (x y : Nat) : (tcells q (y :: t)).set q (.int .i64 (x : Int)) = tcells q (x :: t) := by
  unfold tcells
  rw [List.set_append_right _ _ (by simp)]
  simp
theorem own_at {w : World} {base : Nat} {e : TypeId} {size n c g j : Nat} {xs : List Value} {u : Value} (h : w.ownsRow base e size (.slice (some ⟨g, 0, none⟩) n c) n xs) (hj : xs[j]? = some u) : w.cell? ⟨g, j, none⟩ = some u := by
  have := h.cells (g := g) rfl j u hj
  by_cases h0 : j = 0
  · subst h0; simpa [Addr.add] using this
  · simpa [Addr.add, h0] using this
def tailP (x : Mt) (r : List Mt) (t : List Nat) (q : Nat) : Nat := ((r.zip t).take q).foldl (fun m p => if x.b < p.1.b then max m (p.2 + 1) else m) 1
theorem tailP_succ {x : Mt} {r : List Mt} {t : List Nat} {q : Nat} {y : Mt} {n : Nat} (hy : r[q]? = some y) (hn : t[q]? = some n) : tailP x r t (q + 1) = if x.b < y.b then max (tailP x r t q) (n + 1) else tailP x r t q := by
  unfold tailP
  have : (r.zip t)[q]? = some (y, n) := by rw [List.getElem?_zip_eq_some]; exact ⟨hy, hn⟩
  rw [List.take_add_one, this]
  simp only [Option.toList_some, List.foldl_append, List.foldl_cons, List.foldl_nil]
theorem tailP_all (x : Mt) (r : List Mt) : tailP x r (tailsV r) r.length = tail1 x r (tailsV r) := by
  unfold tailP tail1
  rw [List.take_of_length_le (by rw [List.length_zip, tailsV_len]; omega)]
theorem tail1_le (x : Mt) : ∀ (r : List Mt) (t : List Nat) (m L : Nat), m ≤ L → (∀ n ∈ t, n + 1 ≤ L) → (r.zip t).foldl (fun m p => if x.b < p.1.b then max m (p.2 + 1) else m) m ≤ L
  | [], _, m, L, h, _ => by simpa using h
  | y :: r, [], m, L, h, _ => by simpa using h
  | y :: r, n :: t, m, L, h, ht => by
    simp only [List.zip_cons_cons, List.foldl_cons]
    refine tail1_le x r t _ L ?_ (fun k hk => ht k (by simp [hk]))
    have := ht n (by simp)
    split <;> omega
theorem tails_le : ∀ (l : List Mt), ∀ n ∈ tailsV l, n ≤ l.length
  | [], n, h => by simp [tailsV] at h
  | x :: r, n, h => by
    rcases List.mem_cons.1 h with h | h
    · subst h
      exact tail1_le x r (tailsV r) 1 _ (by simp) (fun k hk => by have := tails_le r k hk; simp; omega)
    · have := tails_le r n h; simp; omega
theorem tailP_le (x : Mt) (r : List Mt) (q : Nat) : tailP x r (tailsV r) q ≤ r.length + 1 := by
  unfold tailP
  have h : ((r.zip (tailsV r)).take q) = (r.take q).zip ((tailsV r).take q) := by rw [List.zip_eq_zipWith, List.zip_eq_zipWith, List.take_zipWith]
  rw [h]
  exact tail1_le x _ _ 1 _ (by omega) (fun k hk => by have := tails_le r k (List.mem_of_mem_take hk); omega)

set_option maxRecDepth 100000 in
set_option maxHeartbeats 8000000 in
theorem tails_any (A : Option Addr) (n c : Nat) (l : List Mt) (w : World) (ha : Mts w A n l) (hn : n ≤ 1000) :
    Calls Tryz.prog 105 #[.slice A n c] w fun e w' => ∃ g, e = .returned (.slice (some ⟨g, 0, none⟩) n n) ∧ w.heap.size ≤ g ∧ w'.ownsRow w.heap.size 3 1 (.slice (some ⟨g, 0, none⟩) n n) n (tcells 0 (tailsV l)) ∧ Ext w w' := by
  obtain rfl : l.length = n := ha.1
  have HA := Lib.hid ha; clear ha
  obtain ⟨inf, i1, i2, i3, i4⟩ := info_of infoI'
  obtain ⟨w1, hmk, how, hg⟩ := run_make_full (P := Tryz.prog) (w := w) w.heap.size 49 3 inf (.int .i64 0) 1 underI' i1 i2 i3 .i64 .i64 l.length (by rw [i4]; omega) (by unfold maxLen; omega) (Nat.le_refl _)
  have how2 : w1.ownsRow w.heap.size 3 1 (.slice (some ⟨w.heap.size, 0, none⟩) l.length l.length) l.length (tcells l.length (tailsV (l.drop l.length))) := by
    have e : (madeCells (Value.int .i64 0).cells (l.length * 1)).toList = tcells l.length (tailsV (l.drop l.length)) := by
      rw [List.drop_length]
      show (madeCells #[Value.int .i64 0] (l.length * 1)).toList = _
      rw [toList_madeCells_one, Nat.mul_one]
      simp [tcells, tailsV]
    rw [← e]; exact how
  have hE1 : Ext w w1 := Below.grown (Ext.refl w) hg (Nat.le_refl _) (fun j hj => by cases hj)
  have HO1 := Lib.hid how2; have HE1 := Lib.hid hE1; clear how how2 hE1 hg
  go_enter Tryz.func105, Tryz.ntmps105
  go_wp2_with fail
  go_loopw [4] (fun v4 wr => ∃ p : Nat, p ≤ l.length ∧ v4 = .int .i64 ((p : Int) - 1) ∧ wr.ownsRow w.heap.size 3 1 (.slice (some ⟨w.heap.size, 0, none⟩) l.length l.length) l.length (tcells p (tailsV (l.drop p))) ∧ Ext w wr) (fun v4 _ => (intOf v4 + 1).toNat)
  case atStart => exact ⟨l.length, Nat.le_refl _, rfl, HO1.out, HE1.out⟩
  clear HO1 HE1
  case round =>
    obtain ⟨p, hp, rfl, ho, hE⟩ := hrel
    have HO := Lib.hid ho; have HE := Lib.hid hE; clear ho hE
    by_cases h0 : p = 0
    case pos =>
      subst h0
      go_wp2_with fail
      go_ret
      exact ⟨_, rfl, Nat.le_refl _, by have := HO.out; rwa [List.drop_zero] at this, HE.out⟩
    obtain ⟨i, rfl⟩ : ∃ i, p = i + 1 := ⟨p - 1, by omega⟩
    obtain ⟨x, hx⟩ : ∃ x, l[i]? = some x := ⟨l[i], List.getElem?_eq_getElem (by omega)⟩
    obtain ⟨r, hr⟩ : ∃ r, l.drop (i + 1) = r := ⟨_, rfl⟩
    have hdrop : l.drop i = x :: r := by rw [drop_of hx, hr]
    have hrl : r.length + (i + 1) = l.length := by rw [← hr, List.length_drop]; omega
    rw [hr] at HO
    have hfz := HO.out.frozenAt i
    have c0 : wr.cell? ⟨w.heap.size, i, none⟩ = some (.int .i64 0) := own_at HO.out (by unfold tcells; rw [List.getElem?_append_left (by simp)]; simp)
    have q1 : ((i + 1 : Nat) : Int) - 1 = (i : Nat) := by omega
    rw [q1]
    have q2 : decide ((0 : Int) ≤ (i : Nat)) = true := by simp
    have hi : i < l.length := by omega
    have HX := Lib.hid hx; have HR := Lib.hid hr; have HDR := Lib.hid hdrop
    clear q1 hx hr hdrop
    go_wp2_with fail
    have hst := (HO.out.stored i (.int .i64 ((1 : Nat) : Int))).1
    rw [tcells_set] at hst
    have hEs : Ext w (wr.setCell ⟨w.heap.size, i, none⟩ (.int .i64 1)) := HE.out.setCell (by simp) _
    have HST := Lib.hid hst; have HES := Lib.hid hEs
    clear hst hEs HO HE c0 hfz q2
    go_loopw [5] (fun v5 wr => ∃ k : Nat, i + 1 ≤ k ∧ k ≤ l.length ∧ v5 = .int .i64 k ∧ wr.ownsRow w.heap.size 3 1 (.slice (some ⟨w.heap.size, 0, none⟩) l.length l.length) l.length (tcells i (tailP x r (tailsV r) (k - (i + 1)) :: tailsV r)) ∧ Ext w wr) (fun v5 _ => l.length - (intOf v5).toNat)
    case atStart => exact ⟨i + 1, Nat.le_refl _, by omega, rfl, by rw [Nat.sub_self]; exact HST.out, HES.out⟩
    clear HST HES
    case round =>
      obtain ⟨k, hk1, hk2, rfl, ho, hE⟩ := hrel
      have HO := Lib.hid ho; have HE := Lib.hid hE; clear ho hE
      by_cases hkl : k < l.length
      case neg =>
        obtain rfl : k = l.length := by omega
        go_wp2_with fail
        go_roundw
        case rel =>
          refine ⟨i, by omega, rfl, ?_, HE.out⟩
          rw [HDR.out, tailsV, ← tailP_all]
          have := HO.out
          rwa [show l.length - (i + 1) = r.length by omega] at this
        case measure => simp [intOf]
      case pos =>
        obtain ⟨y, hy⟩ : ∃ y, l[k]? = some y := ⟨l[k], List.getElem?_eq_getElem (by omega)⟩
        have hyr : r[k - (i + 1)]? = some y := by rw [← HR.out, List.getElem?_drop, show i + 1 + (k - (i + 1)) = k by omega]; exact hy
        obtain ⟨t, ht⟩ : ∃ t, (tailsV r)[k - (i + 1)]? = some t := ⟨_, List.getElem?_eq_getElem (by rw [tailsV_len]; omega)⟩
        obtain ⟨ba, oa, x', hA, hba, hx', -, d0, d1, d2⟩ := (HA.out.ext HE.out).get (k := i) (by omega)
        obtain ⟨ba', oa', y', hA', -, hy', -, e0, e1, e2⟩ := (HA.out.ext HE.out).get hkl
        subst hA
        cases hA'
        rw [HX.out] at hx'; cases hx'
        rw [hy] at hy'; cases hy'
        have hsn := tailP_succ (x := x) hyr ht
        have htl : t ≤ 1000 := by have := tails_le r t (List.mem_of_getElem? ht); omega
        obtain ⟨v, hv⟩ : ∃ v, tailP x r (tailsV r) (k - (i + 1)) = v := ⟨_, rfl⟩
        have hvl : v ≤ 1001 := by rw [← hv]; have := tailP_le x r (k - (i + 1)); omega
        rw [hv] at HO hsn
        have c1 : wr.cell? ⟨w.heap.size, i, none⟩ = some (.int .i64 v) := own_at (j := i) HO.out (tcells_get (j := 0) rfl)
        have c2 : wr.cell? ⟨w.heap.size, k, none⟩ = some (.int .i64 t) := by
          have h3 : (tcells i (v :: tailsV r))[i + (k - (i + 1) + 1)]? = some (.int .i64 t) := tcells_get (by rw [List.getElem?_cons_succ]; exact ht)
          rw [show i + (k - (i + 1) + 1) = k by omega] at h3
          exact own_at HO.out h3
        have hfz := HO.out.frozenAt i
        rw [show k - (i + 1) + 1 = k + 1 - (i + 1) by omega] at hsn
        have HSN := Lib.hid hsn; clear hsn hv ht hy hyr d0 d2 e0 e2
        by_cases hxy : x.b < y.b
        case neg =>
          have h1 := HSN.out; rw [if_neg hxy] at h1
          have H1 := Lib.hid h1; clear h1
          have q3 := nd hxy
          go_wp2_with fail
          go_quiet (fail)
          go_wp2_with fail
          go_roundw
          case rel => exact ⟨k + 1, by omega, by omega, by go_num, by rw [H1.out]; exact own_stab3 ((Ext.refl wr).drewN nq) HO.out, HE.out.drewN _⟩
          case measure => simp [intOf]; omega
        have h1 := HSN.out; rw [if_pos hxy] at h1
        have H1 := Lib.hid h1; clear h1
        have q3 := yd hxy
        go_wp2_with fail
        go_quiet (fail)
        go_wp2_with fail
        go_region
        go_wp2_with fail
        have hmx : (if (v : Int) < (t : Int) + 1 then (t : Int) + 1 else (v : Int)) = ((max v (t + 1) : Nat) : Int) := by split <;> omega
        rw [hmx]
        go_roundw
        case rel =>
          have hst := ((own_stab3 ((Ext.refl wr).drewN (nq + 1)) HO.out).stored i (.int .i64 ((max v (t + 1) : Nat) : Int))).1
          rw [tcells_put] at hst
          exact ⟨k + 1, by omega, by omega, by go_num, by rw [H1.out]; exact hst, (HE.out.drewN _).setCell (by simp) _⟩
        case measure => simp [intOf]; omega
end Go.Proofs.YtmmcjcaccicheaaGreatDoor
/- Contract: Longest. -/
namespace Go.Proofs.YtmmcjcaccicheaaGreatDoor
open Go.RowKit

theorem bOf_at {l : List Mt} {i : Nat} {x : Mt} (h : l[i]? = some x) : bOf l (i : Int) = x.b := by
  unfold bOf; rw [Int.toNat_natCast, getD_is h]
theorem mostV_le (t : List Nat) (L : Nat) (h : ∀ n ∈ t, n ≤ L) : mostV t ≤ L := by
  obtain ⟨_, _, h3⟩ := most_spec t 0
  rcases h3 with h3 | h3
  · have : mostV t = 0 := h3
    omega
  · exact h _ h3
theorem best_yes {l : List Mt} {t : List Nat} {n : Nat} {last : Int} {i : Nat} {b : Int} (hb : bestI l t n last i = b) (hf : fits l t n last i) (h : b < 0 ∨ bOf l i < bOf l b) : bestI l t n last (i + 1) = i := by
  subst hb; rw [bestI_succ, if_pos ⟨hf, h⟩]
theorem best_no {l : List Mt} {t : List Nat} {n : Nat} {last : Int} {i : Nat} {b : Int} (hb : bestI l t n last i = b) (h : ¬ (fits l t n last i ∧ (b < 0 ∨ bOf l i < bOf l b))) : bestI l t n last (i + 1) = b := by
  subst hb; rw [bestI_succ, if_neg h]
theorem last_range (l : List Mt) (t : List Nat) (most : Nat) : ∀ j, lastI l t most j = -1 ∨ ∃ k : Nat, k < l.length ∧ lastI l t most j = k
  | 0 => .inl rfl
  | j + 1 => by
    rw [lastI_succ]
    rcases bestI_spec l t (most - j) (lastI l t most j) l.length with ⟨h, _⟩ | ⟨k, h0, h1, _⟩
    · exact .inl h
    · exact .inr ⟨k, h0, h1⟩
theorem best_range (l : List Mt) (t : List Nat) (n : Nat) (last : Int) (i : Nat) : bestI l t n last i = -1 ∨ ∃ k : Nat, k < i ∧ bestI l t n last i = k := by
  rcases bestI_spec l t n last i with ⟨h, _⟩ | ⟨k, h0, h1, _⟩
  · exact .inl h
  · exact .inr ⟨k, h0, h1⟩

set_option maxRecDepth 100000 in
set_option maxHeartbeats 16000000 in
theorem longest_any (A : Option Addr) (n c : Nat) (l : List Mt) (w : World) (ha : Mts w A n l) (hn : n ≤ 500) :
    Calls Tryz.prog 92 #[.slice A n c] w fun e w' => ∃ v, e = .returned v ∧ w'.ownsRow w.heap.size 104 3 v (longV l).length ((longV l).flatMap Mt.cells) ∧ Ext w w' := by
  obtain rfl : l.length = n := ha.1
  have HA := Lib.hid ha; clear ha
  obtain ⟨inf, i1, i2, i3, i4⟩ := info_of infoM'
  have I1 := Lib.hid i1; have I2 := Lib.hid i2; have I3 := Lib.hid i3; have I4 := Lib.hid i4; clear i1 i2 i3 i4
  obtain ⟨T, hT⟩ : ∃ T, tailsV l = T := ⟨_, rfl⟩
  have hTl : T.length = l.length := by rw [← hT]; exact tailsV_len l
  have hTb : ∀ x ∈ T, x ≤ l.length := by rw [← hT]; exact tails_le l
  obtain ⟨M, hM⟩ : ∃ M, mostV T = M := ⟨_, rfl⟩
  have hMl : M ≤ l.length := by rw [← hM]; exact mostV_le T _ hTb
  have hV : longV l = chainP l T M M := by unfold longV; rw [hT, hM]
  have hok : ∀ j, j < M → ∃ k : Nat, k < l.length ∧ lastI l T M (j + 1) = k := fun j hj => by
    obtain ⟨k, h1, h2, _⟩ := last_ok l j (by rw [hT, hM]; exact hj)
    rw [hT, hM] at h2
    exact ⟨k, h1, h2⟩
  have HTB := Lib.hid hTb; have HM := Lib.hid hM; have HV := Lib.hid hV; have HOK := Lib.hid hok; have HTL := Lib.hid hTl
  go_enter Tryz.func92, Tryz.ntmps92
  go_wp2_with fail
  refine (tails_any A l.length c l _ HA.out (by omega)).mono ?_
  rintro e w1 ⟨g, rfl, hg, ho, hE⟩
  rw [hT] at ho
  have HO1 := Lib.hid ho; have HE1 := Lib.hid hE; clear ho hE hT hTl hTb hM hV hok
  go_wp2_with fail
  go_loopw [4, 15] (fun v4 v15 wr => ∃ k x : Nat, k ≤ l.length ∧ x ≤ 1000 ∧ v4 = .int .i64 x ∧ v15 = .int .i64 k ∧ mostV (T.take k) = x ∧ Ext w1 wr) (fun _ v15 _ => l.length - (intOf v15).toNat)
  case atStart => exact ⟨0, 0, Nat.zero_le _, by omega, rfl, rfl, rfl, Ext.refl _⟩
  case round =>
    obtain ⟨k, x, hk, hx, rfl, rfl, hm, hE⟩ := hrel
    have HMX := Lib.hid hm; have HE := Lib.hid hE; clear hm hE
    by_cases hkl : k < l.length
    case pos =>
      obtain ⟨t, ht⟩ : ∃ t, T[k]? = some t := ⟨_, List.getElem?_eq_getElem (by rw [HTL.out]; omega)⟩
      have htl : t ≤ 500 := by have := HTB.out t (List.mem_of_getElem? ht); omega
      have c1 : wr.cell? ⟨g, k, none⟩ = some (.int .i64 t) := by
        have h3 : (tcells 0 T)[0 + k]? = some (.int .i64 t) := tcells_get ht
        rw [Nat.zero_add] at h3
        exact own_at (own_stab3 HE.out HO1.out) h3
      have hsn : mostV (T.take (k + 1)) = max x t := by rw [take_succ_of ht, mostV_snoc, HMX.out]
      have HSN := Lib.hid hsn; clear hsn ht
      go_wp2_with fail
      all_goals
        go_roundw
        case rel => exact ⟨k + 1, max x t, by omega, by omega, by first | rfl | (congr 1; omega), by go_num, HSN.out, HE.out⟩
        case measure => simp [intOf]; omega
    case neg =>
      obtain rfl : k = l.length := by omega
      have hMx : x = M := by rw [← HMX.out, List.take_of_length_le (by rw [HTL.out]; exact Nat.le_refl _), HM.out]
      subst hMx
      obtain ⟨w2, rfl⟩ : ∃ w2, w2 = wr := ⟨_, rfl⟩
      have HO := Lib.hid (own_stab3 HE.out HO1.out); have HEx := Lib.hid (HE1.out.trans HE.out)
      have hgl : g < w2.heap.size := ((own_stab3 HE.out HO1.out).lt g rfl).2
      clear HO1 HE1 HE HMX
      go_wp2_with fail
      go_loopw [4, 7, 8] (fun v4 v7 v8 wr => ∃ (j nn : Nat) (la : Int), j + nn = x ∧ v4 = .int .i64 nn ∧ v8 = .int .i64 la ∧ lastI l T x j = la ∧ wr.ownsRow w2.heap.size 104 3 v7 j ((chainP l T x j).flatMap Mt.cells) ∧ Ext w2 wr) (fun v4 _ _ _ => (intOf v4).toNat)
      case atStart => exact ⟨0, x, -1, by omega, rfl, rfl, rfl, World.ownsRow_nil _ _ _ _, Ext.refl _⟩
      case round =>
        obtain ⟨j, nn, la, hjn, rfl, rfl, hla, ho, hE⟩ := hrel
        have hrange := last_range l T x j
        rw [hla] at hrange
        have HLA := Lib.hid hla; have HOW := Lib.hid ho; have HE := Lib.hid hE; have HRG := Lib.hid hrange; clear hla ho hE hrange
        by_cases hn0 : nn = 0
        case pos =>
          subst hn0
          obtain rfl : j = x := by omega
          go_wp2_with fail
          go_ret
          have h9 := own_base HOW.out (base' := w.heap.size) HEx.out.size
          exact ⟨_, rfl, by rw [HV.out, chainP_len]; exact h9, HEx.out.trans HE.out⟩
        have hb1 : -1 ≤ la ∧ la < l.length := by rcases HRG.out with h | ⟨k, h1, h2⟩ <;> omega
        obtain ⟨hb1, hb2⟩ := hb1
        have hnn : decide (0 < nn) = true := yd (by omega)
        go_wp2_with fail
        go_loopw [9, 10] (fun v9 v10 wy => ∃ (i : Nat) (bb : Int), la < i ∧ i ≤ l.length ∧ v9 = .int .i64 bb ∧ v10 = .int .i64 i ∧ bestI l T nn la i = bb ∧ Ext wr wy) (fun _ v10 _ => l.length - (intOf v10).toNat)
        case atStart => exact ⟨(la + 1).toNat, -1, by omega, by omega, rfl, by congr 1; omega, bestI_early l T nn la (by omega), Ext.refl _⟩
        case round =>
          obtain ⟨i, bb, hli, hi, rfl, rfl, hbb, hE2⟩ := hrel
          have hbr := best_range l T nn la i
          rw [hbb] at hbr
          have HBB := Lib.hid hbb; have HBR := Lib.hid hbr; have HE2 := Lib.hid hE2; clear hbb hbr hE2
          by_cases hil : i < l.length
          case neg =>
            obtain rfl : i = l.length := by omega
            obtain ⟨k, hk, hlk⟩ := HOK.out j (by omega)
            have hbk : bb = k := by
              rw [← hlk, lastI_succ, HLA.out, show x - j = nn by omega, HBB.out]
            subst hbk
            have HLK := Lib.hid hlk; clear hlk
            obtain ⟨ba, oa, ⟨p, q, z⟩, hA, hba, hm, hwf, d0, d1, d2⟩ := (HA.out.ext (HEx.out.trans (HE.out.trans HE2.out))).get hk
            subst hA
            dsimp only at d0 d1 d2
            have hcs : chainP l T x (j + 1) = chainP l T x j ++ [⟨p, q, z⟩] := by rw [chainP_succ, HLK.out, Int.toNat_natCast, getD_is hm]
            have HCS := Lib.hid hcs; clear hcs hm hwf
            go_wp2_with (at_builtin; refine wpList_append_size2 rfl (.tmp 76) (.tmp 81) 66 rfl w2.heap.size 104 inf _ 3 24 underM' I1.out I2.out I3.out I4.out rfl (by decide) u7 j _ (some ⟨wr.heap.size, 0, none⟩) 1 1 (Mt.cells ⟨p, q, z⟩) rfl (by simp [Act.eval]) rfl (by simp [Mt.cells, Value.oneCell']) (by simp only [maxLen]; omega) (by omega) (own_stab3 (HE2.out.alloc _) HOW.out) (Cells.new wr _ _ rfl) (by have := HE.out.size; have := HE2.out.size; simp; omega) ?_; intro v' w3 hown hg hbk)
            go_roundw
            case rel =>
              refine ⟨j + 1, nn - 1, (k : Int), by omega, by go_num, rfl, HLK.out, ?_, ((HE.out.trans HE2.out).alloc _).own3 (own_stab3 (HE2.out.alloc _) HOW.out) hg⟩
              rw [HCS.out, List.flatMap_append]
              simpa using hown
            case measure => simp [intOf]; omega
          case pos =>
            obtain ⟨ti, hti⟩ : ∃ t, T[i]? = some t := ⟨_, List.getElem?_eq_getElem (by rw [HTL.out]; omega)⟩
            have htl : ti ≤ 500 := by have := HTB.out ti (List.mem_of_getElem? hti); omega
            have c1 : wr.cell? ⟨g, i, none⟩ = some (.int .i64 ti) := by
              have h3 : (tcells 0 T)[0 + i]? = some (.int .i64 ti) := tcells_get hti
              rw [Nat.zero_add] at h3
              exact own_at (own_stab3 (HE.out.trans HE2.out) HO.out) h3
            have hgl2 : g < wr.heap.size := Nat.lt_of_lt_of_le hgl (HE.out.trans HE2.out).size
            have hgd : T.getD i 0 = ti := getD_is hti
            obtain ⟨ba, oa, ⟨p, q, z⟩, hA, hba, hm, -, -, d1, -⟩ := (HA.out.ext (HEx.out.trans (HE.out.trans HE2.out))).get hil
            subst hA
            have hbi := bOf_at hm
            dsimp only at d1 hbi
            have HBI := Lib.hid hbi; have HGD := Lib.hid hgd; clear hm hbi hgd hti
            by_cases h1 : ti = nn
            case neg =>
              have q1 : ((ti : Int) == nn) = false := by simp; omega
              have hn' := best_no HBB.out (fun h => h1 (by rw [← HGD.out]; exact h.1.2.1))
              have HN := Lib.hid hn'; clear hn'
              go_wp2_with fail
              go_quiet (fail)
              go_wp2_with fail
              try clear q7
              try clear z7
              go_roundw
              case rel => exact ⟨i + 1, bb, by omega, by omega, rfl, by go_num, HN.out, HE2.out.drewN _⟩
              case measure => simp [intOf]; omega
            case pos =>
              have q1 : ((ti : Int) == nn) = true := by simp [h1]
              have H1 := Lib.hid h1; clear h1
              rcases HRG.out with hl | ⟨p1, hp1, hl⟩
              · have z5 : decide (la < 0) = true := yd (by omega)
                have HHL := Lib.hid hl; clear hl
                rcases HBR.out with hb | ⟨q1, hq1, hb⟩
                · have hn' := best_yes HBB.out ⟨by omega, by rw [HGD.out]; exact H1.out, .inl (by have := HHL.out; omega)⟩ (.inl (by omega))
                  have q5 : decide (bb < 0) = true := yd (by omega)
                  have HN := Lib.hid hn'; have HHB := Lib.hid hb; clear hn' hb
                  go_wp2_with fail
                  go_quiet (fail)
                  go_wp2_with fail
                  try clear q7
                  try clear z7
                  go_roundw
                  case rel => exact ⟨i + 1, i, by omega, by omega, rfl, by go_num, HN.out, HE2.out.drewN _⟩
                  case measure => simp [intOf]; omega
                · obtain ⟨ba3, oa3, ⟨p3, q3, z3⟩, hA3, -, hm3, -, -, f1, -⟩ := (HA.out.ext (HEx.out.trans (HE.out.trans HE2.out))).get (k := q1) (by omega)
                  cases hA3
                  have hb3 := bOf_at hm3
                  dsimp only at f1 hb3
                  rw [← hb] at hb3
                  have q5 : decide (bb < 0) = false := nd (by omega)
                  have q6 : (0 : Int) ≤ bb := by omega
                  have q7 : bb.toNat = q1 := by omega
                  have q8 : bb < l.length := by omega
                  have q9 : q1 < l.length := by omega
                  have HB3 := Lib.hid hb3; have HHB := Lib.hid hb; clear hm3 hb3 hb
                  by_cases hlt3 : q < q3
                  case pos =>
                    have hn' := best_yes HBB.out ⟨by omega, by rw [HGD.out]; exact H1.out, .inl (by have := HHL.out; omega)⟩ (.inr (by rw [HBI.out, HB3.out]; exact hlt3))
                    have HN := Lib.hid hn'; clear hn'
                    have z9 := yd hlt3
                    go_wp2_with fail
                    go_quiet (fail)
                    go_wp2_with fail
                    try clear q7
                    try clear z7
                    go_roundw
                    case rel => exact ⟨i + 1, i, by omega, by omega, rfl, by go_num, HN.out, HE2.out.drewN _⟩
                    case measure => simp [intOf]; omega
                  case neg =>
                    have hn' := best_no HBB.out (fun h => by rcases h.2 with h | h; have := HHB.out; omega; rw [HBI.out, HB3.out] at h; exact hlt3 h)
                    have HN := Lib.hid hn'; clear hn'
                    have z9 := nd hlt3
                    go_wp2_with fail
                    go_quiet (fail)
                    go_wp2_with fail
                    try clear q7
                    try clear z7
                    go_roundw
                    case rel => exact ⟨i + 1, bb, by omega, by omega, rfl, by go_num, HN.out, HE2.out.drewN _⟩
                    case measure => simp [intOf]; omega
              · obtain ⟨ba2, oa2, ⟨p2, q2, z2⟩, hA2, -, hm2, -, -, e1, -⟩ := (HA.out.ext (HEx.out.trans (HE.out.trans HE2.out))).get hp1
                cases hA2
                have hb2' := bOf_at hm2
                dsimp only at e1 hb2'
                rw [← hl] at hb2'
                have z5 : decide (la < 0) = false := nd (by omega)
                have z6 : (0 : Int) ≤ la := by omega
                have z7 : la.toNat = p1 := by omega
                have z10 : la < l.length := by omega
                have HB2 := Lib.hid hb2'; have HHL := Lib.hid hl; clear hm2 hb2' hl
                by_cases hlt2 : q2 < q
                case neg =>
                  have hn' := best_no HBB.out (fun h => by rcases h.1.2.2 with h | h; have := HHL.out; omega; rw [HBI.out, HB2.out] at h; exact hlt2 h)
                  have HN := Lib.hid hn'; clear hn'
                  have z8 := nd hlt2
                  go_wp2_with fail
                  go_quiet (fail)
                  go_wp2_with fail
                  try clear q7
                  try clear z7
                  go_roundw
                  case rel => exact ⟨i + 1, bb, by omega, by omega, rfl, by go_num, HN.out, HE2.out.drewN _⟩
                  case measure => simp [intOf]; omega
                case pos =>
                  have z8 := yd hlt2
                  rcases HBR.out with hb | ⟨q1, hq1, hb⟩
                  · have hn' := best_yes HBB.out ⟨by omega, by rw [HGD.out]; exact H1.out, .inr (by rw [HBI.out, HB2.out]; exact hlt2)⟩ (.inl (by omega))
                    have q5 : decide (bb < 0) = true := yd (by omega)
                    have HN := Lib.hid hn'; have HHB := Lib.hid hb; clear hn' hb
                    go_wp2_with fail
                    go_quiet (fail)
                    go_wp2_with fail
                    try clear q7
                    try clear z7
                    go_roundw
                    case rel => exact ⟨i + 1, i, by omega, by omega, rfl, by go_num, HN.out, HE2.out.drewN _⟩
                    case measure => simp [intOf]; omega
                  · obtain ⟨ba3, oa3, ⟨p3, q3, z3⟩, hA3, -, hm3, -, -, f1, -⟩ := (HA.out.ext (HEx.out.trans (HE.out.trans HE2.out))).get (k := q1) (by omega)
                    cases hA3
                    have hb3 := bOf_at hm3
                    dsimp only at f1 hb3
                    rw [← hb] at hb3
                    have q5 : decide (bb < 0) = false := nd (by omega)
                    have q6 : (0 : Int) ≤ bb := by omega
                    have q7 : bb.toNat = q1 := by omega
                    have q8 : bb < l.length := by omega
                    have q9 : q1 < l.length := by omega
                    have HB3 := Lib.hid hb3; have HHB := Lib.hid hb; clear hm3 hb3 hb
                    by_cases hlt3 : q < q3
                    case pos =>
                      have hn' := best_yes HBB.out ⟨by omega, by rw [HGD.out]; exact H1.out, .inr (by rw [HBI.out, HB2.out]; exact hlt2)⟩ (.inr (by rw [HBI.out, HB3.out]; exact hlt3))
                      have HN := Lib.hid hn'; clear hn'
                      have z9 := yd hlt3
                      go_wp2_with fail
                      go_quiet (fail)
                      go_wp2_with fail
                      try clear q7
                      try clear z7
                      go_roundw
                      case rel => exact ⟨i + 1, i, by omega, by omega, rfl, by go_num, HN.out, HE2.out.drewN _⟩
                      case measure => simp [intOf]; omega
                    case neg =>
                      have hn' := best_no HBB.out (fun h => by rcases h.2 with h | h; have := HHB.out; omega; rw [HBI.out, HB3.out] at h; exact hlt3 h)
                      have HN := Lib.hid hn'; clear hn'
                      have z9 := nd hlt3
                      go_wp2_with fail
                      go_quiet (fail)
                      go_wp2_with fail
                      try clear q7
                      try clear z7
                      go_roundw
                      case rel => exact ⟨i + 1, bb, by omega, by omega, rfl, by go_num, HN.out, HE2.out.drewN _⟩
                      case measure => simp [intOf]; omega
end Go.Proofs.YtmmcjcaccicheaaGreatDoor

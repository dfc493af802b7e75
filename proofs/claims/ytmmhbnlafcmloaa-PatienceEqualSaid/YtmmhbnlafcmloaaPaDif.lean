/- Contracts: diff, middle, Diff. -/
import Derived.Test.YtmmhbnlafcmloaaPaIter
import Derived.Test.YtmmhbnlafcmloaaPaLong
import Derived.Test.YtmmhbnlafcmloaaPaUniq
import Derived.Test.YtmmhbnlafcmloaaPaCom
import Derived.Test.YtmmhbnlafcmloaaPaAsc
namespace Go.Proofs.Ytmmhbnlafcmloaa
open Go.RowKit
attribute [local go_sem] Oper.semAt_some

section
variable {wO w w' : World} {gm base : Nat} {A : Option Addr} {n c : Nat} {B : Option Addr} {m d : Nat} {ms : List Mt} {v : Value}
theorem MatS.ext (h : MatS w gm base A n c B m d ms v) (e : Ext w w') : MatS w' gm base A n c B m d ms v := ⟨h.blk.ext e, own_stab3 e h.own, h.lt, Nat.le_trans h.le e.size⟩
theorem MatS.org (h : MatS w gm base A n c B m d ms v) (hO : Ext wO w) (hg : wO.heap.size ≤ gm) (k : Lv (fun g => g = gm ∨ v.ownBlock = some g) w w') : Ext wO w' :=
  k.extBelow hO (fun g hg' hs => hs.elim (fun h => by omega) (fun h' => by have := (h.own.lt g h').1; have := h.lt; omega))
theorem MatS.box (h : MatS w gm base A n c B m d ms v) {g : Nat} {cs : Array Value} {t : TypeId} (hb : Blk w g (.cells cs t (0, 0))) (ht : t ≠ 32) (hg : g ≠ gm) (k : Lv (fun g => g = gm ∨ v.ownBlock = some g) w w') : Blk w' g (.cells cs t (0, 0)) :=
  hb.lv k (fun hs => hs.elim hg (fun h' => by
    obtain ⟨_, cur, hc⟩ := own_blk h.own h'
    exact ht (blk_type hb hc)))
/-- From w, where the matcher held v0, to w', where it holds v. -/
structure Run (wO w : World) (gm base : Nat) (A : Option Addr) (n c : Nat) (B : Option Addr) (m d : Nat) (v0 : Value) (ms : List Mt) (v : Value) (w' : World) : Prop where
  mat : MatS w' gm base A n c B m d ms v
  lv : Lv (fun g => g = gm ∨ v0.ownBlock = some g) w w'
  ob : ∀ g, v.ownBlock = some g → v0.ownBlock = some g ∨ w.heap.size ≤ g
  org : Ext wO w'
theorem Run.ext {v0 : Value} {w'' : World} (h : Run wO w gm base A n c B m d v0 ms v w') (e : Ext w' w'') : Run wO w gm base A n c B m d v0 ms v w'' := ⟨h.mat.ext e, h.lv.ext e, h.ob, h.org.trans e⟩
theorem Run.upd {v0 : Value} {ms2 : List Mt} {w'' : World} (h : Run wO w gm base A n c B m d v0 ms v w') (hg : wO.heap.size ≤ gm) (k : Upd w' gm base A n c B m d ms2 v w'') : ∃ v2, Run wO w gm base A n c B m d v0 ms2 v2 w'' ∧ Lv (fun g => g = gm ∨ v.ownBlock = some g) w' w'' := by
  have k' := k
  obtain ⟨v2, k1, k2, k3⟩ := k
  refine ⟨v2, ⟨k1, h.lv.trans k2 (fun g hg h' => ?_), fun g hg => ?_, h.mat.org h.org hg k2⟩, k2⟩
  · rcases h' with h' | h'
    · exact .inl h'
    · rcases h.ob g h' with h'' | h''
      · exact .inr h''
      · omega
  · rcases k3 g hg with h' | h'
    · exact h.ob g h'
    · have := h.lv.size; exact .inr (by omega)
theorem Run.next {v0 v2 : Value} {ms2 : List Mt} {w'' : World} (h : Run wO w gm base A n c B m d v0 ms v w') (hg : wO.heap.size ≤ gm) (k1 : MatS w'' gm base A n c B m d ms2 v2) (k2 : Lv (fun g => g = gm ∨ v.ownBlock = some g) w' w'') (k3 : ∀ g, v2.ownBlock = some g → v.ownBlock = some g ∨ w'.heap.size ≤ g) : Run wO w gm base A n c B m d v0 ms2 v2 w'' := by
  refine ⟨k1, h.lv.trans k2 (fun g hg h' => ?_), fun g hg => ?_, h.mat.org h.org hg k2⟩
  · rcases h' with h' | h'
    · exact .inl h'
    · rcases h.ob g h' with h'' | h''
      · exact .inr h''
      · omega
  · rcases k3 g hg with h' | h'
    · exact h.ob g h'
    · have := h.lv.size; exact .inr (by omega)
theorem Run.done {v0 : Value} (h : Run wO w gm base A n c B m d v0 ms v w') : Upd w gm base A n c B m d ms v0 w' := ⟨v, h.mat, h.lv, h.ob⟩
end

/-- What diff promises, for parts whose first list is shorter than f. -/
def DiffC (f : Nat) (wO : World) (gm base : Nat) (A : Option Addr) (c : Nat) (B : Option Addr) (d : Nat) (a b : Lns) : Prop :=
  ∀ (p : Pt) (ms : List Mt) (v : Value) (w : World), MatS w gm base A a.length c B b.length d ms v → Ext wO w → Bnd 500 ms → p.a ≤ p.a' → p.a' ≤ a.length → p.b ≤ p.b' → p.b' ≤ b.length → p.a' - p.a < f → ms.length + (5 * ((p.a' - p.a) + (p.b' - p.b)) + 2) ≤ 1900 →
    Calls Try.prog 30 #[.pointer (some ⟨gm, 0, none⟩), p.val] w fun e w' => (∃ u, e = .returned u) ∧ Bnd 500 ((shV (pcV f (cutV a p.a p.a') (cutV b p.b p.b')) p.a p.b).foldl keepV ms) ∧ Upd w gm base A a.length c B b.length d ((shV (pcV f (cutV a p.a p.a') (cutV b p.b p.b')) p.a p.b).foldl keepV ms) v w'
/-- What middle promises. -/
def MidC (f : Nat) (wO : World) (gm base : Nat) (A : Option Addr) (c : Nat) (B : Option Addr) (d : Nat) (a b : Lns) : Prop :=
  ∀ (p : Pt) (ms : List Mt) (v : Value) (w : World), MatS w gm base A a.length c B b.length d ms v → Ext wO w → Bnd 500 ms → p.a ≤ p.a' → p.a' ≤ a.length → p.b ≤ p.b' → p.b' ≤ b.length → p.a' - p.a < f + 1 → ms.length + (5 * ((p.a' - p.a) + (p.b' - p.b)) + 2) ≤ 1902 →
    Calls Try.prog 39 #[.pointer (some ⟨gm, 0, none⟩), p.val] w fun e w' => (∃ u, e = .returned u) ∧ Bnd 500 ((if cutV a p.a p.a' = [] ∨ cutV b p.b p.b' = [] then [] else shV (midG (pcV f) (cutV a p.a p.a') (cutV b p.b p.b')) p.a p.b).foldl keepV ms) ∧ Upd w gm base A a.length c B b.length d ((if cutV a p.a p.a' = [] ∨ cutV b p.b p.b' = [] then [] else shV (midG (pcV f) (cutV a p.a p.a') (cutV b p.b p.b')) p.a p.b).foldl keepV ms) v w'
theorem fold_len : ∀ (l ms : List Mt), (l.foldl keepV ms).length ≤ ms.length + l.length
  | [], _ => by simp
  | m :: l, ms => by
    have h1 := fold_len l (keepV ms m)
    have h2 := keepV_len ms m
    simp only [List.foldl_cons, List.length_cons]; omega
theorem cut_cut (a : Lns) {x x' i j : Nat} (_h : i + j ≤ x' - x) (hx : x' ≤ a.length) : cutV (cutV a x x') i ((cutV a x x').length - j) = cutV a (x + i) (x' - j) := by
  rw [cutV_len hx]
  unfold cutV
  rw [List.drop_take, List.drop_drop, List.take_take]
  congr 1
  omega
theorem Bnd.one {L : Nat} {x y l : Int} (h : (0 ≤ x ∧ x + l ≤ L) ∧ (0 ≤ y ∧ y + l ≤ L) ∧ 0 ≤ l) : Bnd L [⟨x, y, l⟩] := by
  intro m hm; simp only [List.mem_singleton] at hm; subst hm; exact h
theorem strs_part {w : World} {A A' : Option Addr} {c : Nat} {a : Lns} (h : Strs w A a.length a) (hc : a.length ≤ c) {x y : Nat} (hxy : x ≤ y) (hy : y ≤ a.length) (hA : (if c = x then A else A.map (fun z => z.add x)) = A') : Strs w A' (y - x) (cutV a x y) :=
  strs_cut h hc (by omega) hA
theorem common_is (A B : Option Addr) (n c m d : Nat) (a b : Lns) (w : World) (ha : Strs w A n a) (hb : Strs w B m b) (hn : n ≤ 1000) (hm : m ≤ 1000) (x y : Nat) (hx : preN a b = x) (hy : sufN a b = y) :
    Calls Try.prog 24 #[.slice A n c, .slice B m d] w fun e w' => e = .returned (.tuple #[.int .i64 x, .int .i64 y]) ∧ Ext w w' := by
  subst hx; subst hy; exact common_any A B n c m d a b w ha hb hn hm

set_option maxRecDepth 100000 in
set_option maxHeartbeats 8000000 in
theorem diff_of_middle (f : Nat) (wO : World) (gm base : Nat) (A : Option Addr) (c : Nat) (B : Option Addr) (d : Nat) (a b : Lns) (hoA : Strs wO A a.length a) (hoB : Strs wO B b.length b) (hgO : wO.heap.size ≤ gm) (hc : a.length ≤ c) (hd : b.length ≤ d) (hn : a.length ≤ 200) (hm : b.length ≤ 200) (hM : MidC f wO gm base A c B d a b) : DiffC (f + 1) wO gm base A c B d a b := by
  intro p ms v w hS hO hB h1 h2 h3 h4 hf hlen
  have ha := hoA.ext hO
  have hb := hoB.ext hO
  obtain ⟨pa, pa', pb, pb'⟩ := p
  dsimp only at h1 h2 h3 h4 hf hlen
  have HM := Lib.hid hM; have HS := Lib.hid hS; have HB := Lib.hid hB; have HA := Lib.hid ha; have HBB := Lib.hid hb; have HO := Lib.hid hO; clear hM hS hB ha hb hO hoA hoB
  obtain ⟨xs, hxs⟩ : ∃ xs, cutV a pa pa' = xs := ⟨_, rfl⟩
  obtain ⟨ys, hys⟩ : ∃ ys, cutV b pb pb' = ys := ⟨_, rfl⟩
  have hxl : xs.length = pa' - pa := by rw [← hxs]; exact cutV_len h2
  have hyl : ys.length = pb' - pb := by rw [← hys]; exact cutV_len h4
  obtain ⟨i, hi⟩ : ∃ i, preN xs ys = i := ⟨_, rfl⟩
  obtain ⟨j, hj⟩ : ∃ j, sufN xs ys = j := ⟨_, rfl⟩
  have hij := suf_le xs ys
  rw [hi, hj, hxl, hyl] at hij
  obtain ⟨hij1, hij2⟩ := hij
  obtain ⟨A', hA'⟩ : ∃ A', (if c = pa then A else A.map (fun z => z.add pa)) = A' := ⟨_, rfl⟩
  obtain ⟨B', hB'⟩ : ∃ B', (if d = pb then B else B.map (fun z => z.add pb)) = B' := ⟨_, rfl⟩
  have sA : ∀ wx, Ext w wx → Strs wx A' (pa' - pa) xs := fun wx hx => by rw [← hxs]; exact strs_part (HA.out.ext hx) hc h1 h2 hA'
  have sB : ∀ wx, Ext w wx → Strs wx B' (pb' - pb) ys := fun wx hx => by rw [← hys]; exact strs_part (HBB.out.ext hx) hd h3 h4 hB'
  have hpc : pcV (f + 1) xs ys = [⟨0, 0, (i : Int)⟩] ++ (if cutV xs i (xs.length - j) = [] ∨ cutV ys i (ys.length - j) = [] then [] else shV (midG (pcV f) (cutV xs i (xs.length - j)) (cutV ys i (ys.length - j))) i i) ++ [⟨(xs.length : Int) - j, (ys.length : Int) - j, (j : Int)⟩] := by rw [pcV, hi, hj]
  have HXS := Lib.hid hxs; have HYS := Lib.hid hys; have HXL := Lib.hid hxl; have HYL := Lib.hid hyl; have HI := Lib.hid hi; have HJ := Lib.hid hj; have AA := Lib.hid hA'; have BB := Lib.hid hB'; have SA := Lib.hid sA; have SB := Lib.hid sB; have HPC := Lib.hid hpc
  clear hxs hys hxl hyl hi hj hA' hB' sA sB hpc
  dsimp only [Pt.val]
  go_enter Try.func30, Try.ntmps30
  go_wp2_with fail
  obtain ⟨gp, hgp⟩ : ∃ gp, gp = w.heap.size := ⟨_, rfl⟩
  obtain ⟨w1, hw1, hp1, hE1⟩ : ∃ w1, w1 = w.alloc (Pt.obj ⟨pa, pa', pb, pb'⟩) ∧ Blk w1 gp (Pt.obj ⟨pa, pa', pb, pb'⟩) ∧ Ext w w1 := ⟨_, rfl, Blk.new w _ hgp, (Ext.refl w).alloc _⟩
  rw [← hw1, ← hgp]
  have HP1 := Lib.hid hp1; have HE1 := Lib.hid hE1; have HGP := Lib.hid hgp
  clear hw1 hp1 hE1 hgp
  have b1 : (pa' : Int) ≤ c := by omega
  have b2 : (pb' : Int) ≤ d := by omega
  have b3 : (pa : Int) ≤ pa' := by omega
  have b4 : (pb : Int) ≤ pb' := by omega
  refine wp_region_text (fun wx => Ext w1 wx) [0,1,2,3,4,5,6,7,8,9,10,11,12,13,14,15,16,17,18,19,20,21,22,23] (by kernel_rfl) (Stab.ext _) (Ext.refl w1).drew (by kernel_rfl) (fun _ d _ _ _ h => by cases d <;> exact h) ?_
  iterate 8
    refine wpTk_want rfl (Eq.refl true) ?_
    apply Exists.intro
    refine ⟨fun wx hx => ?_, ?_⟩
    · obtain ⟨m0, m1, m2⟩ := (HS.out.blk.ext (HE1.out.trans hx)).cells3
      obtain ⟨p0, p1, p2, p3⟩ := (HP1.out.ext hx).cells4
      clear hx
      go_simp
      with_reducible exact gives_ok _ _ _
    simp only [Act.put, List.setIfInBounds_toArray, List.set_cons_zero, List.set_cons_succ]
  refine wpTk_want rfl (Eq.refl true) ⟨.slice A' (pa' - pa) (c - pa), fun wx hx => ?_, ?_⟩
  · clear hx
    go_simp
    rw [AA.out]
    with_reducible exact gives_ok _ _ _
  simp only [Act.put, List.setIfInBounds_toArray, List.set_cons_zero, List.set_cons_succ]
  iterate 8
    refine wpTk_want rfl (Eq.refl true) ?_
    apply Exists.intro
    refine ⟨fun wx hx => ?_, ?_⟩
    · obtain ⟨m0, m1, m2⟩ := (HS.out.blk.ext (HE1.out.trans hx)).cells3
      obtain ⟨p0, p1, p2, p3⟩ := (HP1.out.ext hx).cells4
      clear hx
      go_simp
      with_reducible exact gives_ok _ _ _
    simp only [Act.put, List.setIfInBounds_toArray, List.set_cons_zero, List.set_cons_succ]
  refine wpTk_want rfl (Eq.refl true) ⟨.slice B' (pb' - pb) (d - pb), fun wx hx => ?_, ?_⟩
  · clear hx
    go_simp
    rw [BB.out]
    with_reducible exact gives_ok _ _ _
  simp only [Act.put, List.setIfInBounds_toArray, List.set_cons_zero, List.set_cons_succ]
  refine wpTk_want rfl (Eq.refl true) ⟨.tuple #[.int .i64 i, .int .i64 j], fun wx hx => ?_, ?_⟩
  · have r := common_is A' B' (pa' - pa) (c - pa) (pb' - pb) (d - pb) xs ys wx (SA.out wx (HE1.out.trans hx)) (SB.out wx (HE1.out.trans hx)) (by omega) (by omega) i j HI.out HJ.out
    clear hx
    go_simp
    with_reducible exact gives_call _ _ _ r
  simp only [Act.put, List.setIfInBounds_toArray, List.set_cons_zero, List.set_cons_succ]
  iterate 5
    refine wpTk_want rfl (Eq.refl true) ?_
    apply Exists.intro
    refine ⟨fun wx hx => ?_, ?_⟩
    · obtain ⟨m0, m1, m2⟩ := (HS.out.blk.ext (HE1.out.trans hx)).cells3
      obtain ⟨p0, p1, p2, p3⟩ := (HP1.out.ext hx).cells4
      clear hx
      go_simp
      with_reducible exact gives_ok _ _ _
    simp only [Act.put, List.setIfInBounds_toArray, List.set_cons_zero, List.set_cons_succ]
  refine wpTk_nil ?_
  intro w2 hx
  have HE2 := Lib.hid (HE1.out.trans hx); have HP2 := Lib.hid (HP1.out.ext hx); clear hx
  obtain ⟨p0, p1, p2, p3⟩ := HP2.out.cells4
  go_wp2_with fail
  have hR2 : Run wO w gm base A a.length c B b.length d v ms v w2 := ⟨HS.out.ext HE2.out, Lv.of_ext HE2.out, fun g h => .inl h, HO.out.trans HE2.out⟩
  have HR2 := Lib.hid hR2; clear hR2
  have hgpm : gp ≠ gm := by have := HGP.out; have := HS.out.blk.lt; omega
  refine (keep_any gm base A a.length c B b.length d ms v pa pb i 500 w2 HR2.out.mat HB.out (Bnd.one (by omega)) (by omega) (by omega)).mono ?_
  rintro e w3 ⟨⟨u, rfl⟩, hU⟩
  obtain ⟨v3, hR3, hL3⟩ := HR2.out.upd hgO hU
  have HR3 := Lib.hid hR3; have HP3 := Lib.hid (HR2.out.mat.box HP2.out (by decide) hgpm hL3)
  have HB3 := Lib.hid (HB.out.keep (m := ⟨pa, pb, i⟩) (Bnd.one (L := 500) (by omega)))
  have hln3 := keepV_len ms ⟨pa, pb, i⟩
  clear hU hR3 hL3 HR2 HP2 p0 p1 p2 p3
  obtain ⟨p0, p1, p2, p3⟩ := HP3.out.cells4
  go_wp2_with fail
  have hi1 : pa + i ≤ pa' - j := by omega
  have hi2 : pb + i ≤ pb' - j := by omega
  have hmid := HM.out ⟨pa + i, pa' - j, pb + i, pb' - j⟩ (keepV ms ⟨pa, pb, i⟩) v3 w3 HR3.out.mat HR3.out.org HB3.out hi1 (by dsimp only; omega) hi2 (by dsimp only; omega) (by dsimp only; omega) (by dsimp only; omega)
  dsimp only at hmid
  have hval : Pt.val ⟨pa + i, pa' - j, pb + i, pb' - j⟩ = .agg #[.int .i64 ((pa : Int) + i), .int .i64 ((pa' : Int) - j), .int .i64 ((pb : Int) + i), .int .i64 ((pb' : Int) - j)] := by
    unfold Pt.val
    dsimp only
    rw [show ((pa' - j : Nat) : Int) = (pa' : Int) - j by omega, show ((pb' - j : Nat) : Int) = (pb' : Int) - j by omega, show ((pa + i : Nat) : Int) = (pa : Int) + i by omega, show ((pb + i : Nat) : Int) = (pb : Int) + i by omega]
  rw [hval] at hmid
  obtain ⟨M2, hM2⟩ : ∃ M2, (if cutV a (pa + i) (pa' - j) = [] ∨ cutV b (pb + i) (pb' - j) = [] then [] else shV (midG (pcV f) (cutV a (pa + i) (pa' - j)) (cutV b (pb + i) (pb' - j))) ((pa + i : Nat) : Int) ((pb + i : Nat) : Int)) = M2 := ⟨_, rfl⟩
  rw [hM2] at hmid
  have hshape : shV (pcV (f + 1) xs ys) pa pb = [⟨pa, pb, i⟩] ++ M2 ++ [⟨(pa' : Int) - j, (pb' : Int) - j, j⟩] := by
    rw [HPC.out, ← HXS.out, ← HYS.out, cut_cut a (by omega) h2, cut_cut b (by omega) h4, ← hM2, shV_append, shV_append]
    congr 1
    · congr 1
      · simp [shV, mvM]
      · split
        · rfl
        · rw [shV_shV]; congr 1 <;> omega
    · rw [cutV_len h2, cutV_len h4]
      simp only [shV, List.map_cons, List.map_nil, mvM]
      rw [show ((pa' - pa : Nat) : Int) - j + pa = (pa' : Int) - j by omega, show ((pb' - pb : Nat) : Int) - j + pb = (pb' : Int) - j by omega]
  have hfin : (shV (pcV (f + 1) (cutV a pa pa') (cutV b pb pb')) pa pb).foldl keepV ms = keepV (M2.foldl keepV (keepV ms ⟨pa, pb, i⟩)) ⟨(pa' : Int) - j, (pb' : Int) - j, j⟩ := by
    rw [HXS.out, HYS.out, hshape, List.foldl_append, List.foldl_append]; rfl
  have hlenM : M2.length ≤ 5 * ((pa' - pa) + (pb' - pb)) := by
    have h9 := pc_len (f + 1) xs ys
    have h10 := congrArg List.length hshape
    simp only [shV, List.length_map, List.length_append, List.length_cons, List.length_nil] at h10
    rw [HXL.out, HYL.out] at h9
    omega
  have hln4 := fold_len M2 (keepV ms ⟨pa, pb, i⟩)
  have HFIN := Lib.hid hfin; have HM2 := Lib.hid hM2
  clear hval hM2 hshape hfin
  refine hmid.mono ?_
  rintro e w4 ⟨⟨u4, rfl⟩, hB4, hU⟩
  obtain ⟨v4, hR4, hL4⟩ := HR3.out.upd hgO hU
  have HR4 := Lib.hid hR4; have HP4 := Lib.hid (HR3.out.mat.box HP3.out (by decide) hgpm hL4); have HB4 := Lib.hid hB4
  clear hU hR4 hL4 hB4 hmid HR3 HP3 p0 p1 p2 p3
  obtain ⟨p0, p1, p2, p3⟩ := HP4.out.cells4
  go_wp2_with fail
  refine (keep_any gm base A a.length c B b.length d _ v4 ((pa' : Int) - j) ((pb' : Int) - j) j 500 w4 HR4.out.mat HB4.out (Bnd.one (by omega)) (by omega) (by omega)).mono ?_
  rintro e w5 ⟨⟨u5, rfl⟩, hU⟩
  obtain ⟨v5, hR5, hL5⟩ := HR4.out.upd hgO hU
  have HR5 := Lib.hid hR5; clear hU hR5 hL5
  go_wp2_with fail
  refine bodyPost_end (results_none rfl _ _ _) rfl ?_
  exact ⟨⟨_, rfl⟩, by rw [HFIN.out]; exact HB4.out.keep (Bnd.one (by omega)), by rw [HFIN.out]; exact HR5.out.done⟩
end Go.Proofs.Ytmmhbnlafcmloaa

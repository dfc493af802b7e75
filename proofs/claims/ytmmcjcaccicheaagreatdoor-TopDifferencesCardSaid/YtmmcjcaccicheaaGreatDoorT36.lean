/- UdDif UdFac UdGrp UdBlP: parts of the proof of TopDifferences, one text behind the other. No condition. -/
import Derived.Test.YtmmcjcaccicheaaGreatDoorT35
import Derived.Test.YtmmcjcaccicheaaGreatDoorT33
import Derived.Test.YtmmcjcaccicheaaGreatDoorT34
import Derived.Test.YtmmcjcaccicheaaGreatDoorT03
/- The contract of hunks.Diff, whatever the matching. -/
namespace Go.Proofs.YtmmcjcaccicheaaGreatDoor
open Go.RowKit
set_option maxRecDepth 100000 in
set_option maxHeartbeats 4000000 in
theorem hdiff_gen (A B : Option Addr) (n c m d al f : Nat) (a b : Lns) (w : World) (ha : Strs w A n a) (hb : Strs w B m b) (hn : n ≤ 1000) (hm : m ≤ 1000) (hnc : n ≤ c) (hmd : m ≤ d) (hal : al = 1 ∧ f = 25 ∨ al = 2 ∧ f = 26 ∨ al = 3 ∧ f = 27)
    (ms : List Mt) (hd : ∀ w', Ext w w' → Calls Tryz.prog f #[.slice A n c, .slice B m d] w' fun r w'' => Ext w' w'' ∧ ∃ C ln lc, r = .returned (.slice C ln lc) ∧ ln ≤ lc ∧ Mts w'' C ln ms) (hln : ms.length ≤ 999) (hv : checkV a b (-1) (-1) ms = 0) :
    Calls Tryz.prog 10 #[.slice A n c, .slice B m d, .int .i64 al] w fun r w' => Ext w w' ∧ ∃ v va, r = .returned (.tuple #[v, .int .i64 0]) ∧ HMem w.heap.size v va va (ofV a b 0 0 (ms ++ [⟨a.length, b.length, 0⟩])) (hls (ofV a b 0 0 (ms ++ [⟨a.length, b.length, 0⟩]))) w' := by
  have hmm := @run_makeMap Tryz.prog
  obtain ⟨w2, w3, w4, r2, r3, r4, e4, hl⟩ := algs w
  have hl1 := hl al f hal
  have HA := Lib.hid ha; have HB := Lib.hid hb; have HD := Lib.hid hd; have HV := Lib.hid hv; have HLN := Lib.hid hln; have E4 := Lib.hid e4
  clear ha hb hd hv hln hl e4
  rcases hal with ⟨rfl, rfl⟩ | ⟨rfl, rfl⟩ | ⟨rfl, rfl⟩
  all_goals
    first
      | rw [show ((1 : Nat) : Int) = 1 from rfl] at hl1
      | rw [show ((2 : Nat) : Int) = 2 from rfl] at hl1
      | rw [show ((3 : Nat) : Int) = 3 from rfl] at hl1
    go_enter Tryz.func10, Tryz.ntmps10
    go_wp2_with fail
    refine (HD.out w4 E4.out).mono ?_
    rintro r w5 ⟨hE5, C, ln, lc, rfl, hlc, hmt⟩
    have hof := of_any A B C n c m d ln lc a b ms w5 (HA.out.ext (E4.out.trans hE5)) (HB.out.ext (E4.out.trans hE5)) hmt hn hm (by have := hmt.1; have := HLN.out; omega) hnc hmd HV.out
    have HE5 := Lib.hid (E4.out.trans hE5)
    clear hE5 hmt hmm r2 r3 r4 hl1
    go_wp2_with fail
    refine hof.mono ?_
    rintro r w6 ⟨hE6, v, va, rfl, hM⟩
    have HE6 := Lib.hid (HE5.out.trans hE6); have HM := Lib.hid (hM.low HE5.out.size)
    clear hE6 hM hof
    go_wp2_with fail
    exact bodyPost_ret (v := .tuple #[v, .int .i64 0]) (by simp [results, Tryz.results10, go_sem]) rfl ⟨HE6.out, _, _, rfl, HM.out⟩
end Go.Proofs.YtmmcjcaccicheaaGreatDoor
/- What the blocks of short texts fit: plain. -/
namespace Go.Proofs.YtmmcjcaccicheaaGreatDoor

theorem ln_in {p : Bdy} {x : Ln} (hx : x ∈ p) : x.s ∈ oldB p ∨ x.s ∈ newB p := by
  induction p with
  | nil => simp at hx
  | cons y r ih =>
    obtain ⟨k, s⟩ := y
    rcases List.mem_cons.1 hx with rfl | hx
    · cases k <;> simp [oldB, newB]
    · rcases ih hx with h | h
      · left; cases k <;> simp [oldB, h]
      · right; cases k <;> simp [newB, h]
theorem joinT_le (K : Nat) : ∀ (l : List Tk), (∀ t ∈ l, (tkL t).length ≤ K) → (joinT l).length ≤ l.length * (K + 1)
  | [], _ => by simp [joinT]
  | t :: r, h => by
    have := joinT_le K r (fun t ht => h t (by simp [ht]))
    have h1 := h t (by simp)
    simp only [joinT, List.length_append, List.length_cons, Nat.add_mul] at this ⊢
    omega
theorem toks_few : ∀ (L : List GB) (x y : Nat), okS L → (toks (bksS x y L)).length ≤ 2 * ((oldS L).length + (newS L).length)
  | [], _, _, _ => by simp [bksS, toks]
  | p :: r, x, y, h => by
    obtain ⟨h1, _, h3⟩ := h
    have ih := toks_few r (x + p.1.length + (oldB p.2).length) (y + p.1.length + (newB p.2).length) h3
    have c1 := c_chg h1; have c2 := c_old p.2; have c3 := c_new p.2; have c4 := c_le p.2
    simp only [bksS, toks, oldS, newS, List.length_append, List.length_cons, List.length_map] at ih ⊢
    omega
structure Fits (xs : List Bk) : Prop where
  fit : ∀ x ∈ xs, BFit x
  tk : ∀ t ∈ toks xs, TkOk t
  few : (toks xs).length ≤ 1000
  len : (fmtL xs).length ≤ 1000000000
  n : xs.length ≤ 1000
theorem mem_toks : ∀ {l : List Bk} {t : Tk}, t ∈ toks l → ∃ b ∈ l, t = .hdr ⟨b.oa, b.ol, b.na, b.nl, []⟩ ∨ ∃ x ∈ b.ls, t = .ln x
  | [], t, h => by simp [toks] at h
  | b :: r, t, h => by
    simp only [toks, List.mem_cons, List.mem_append, List.mem_map] at h
    rcases h with h | ⟨x, hx, rfl⟩ | h
    · exact ⟨b, by simp, .inl h⟩
    · exact ⟨b, by simp, .inr ⟨x, hx, rfl⟩⟩
    · obtain ⟨b', hb', h'⟩ := mem_toks h
      exact ⟨b', by simp [hb'], h'⟩
theorem fits_of {L : List GB} (ho : (oldS L).length ≤ 80) (hn : (newS L).length ≤ 80) (ha : ∀ s ∈ oldS L, (10 : UInt8) ∉ s.data.toList ∧ s.size ≤ 100000) (hb : ∀ s ∈ newS L, (10 : UInt8) ∉ s.data.toList ∧ s.size ≤ 100000) (hok : okS L) : Fits (bksS 0 0 L) := by
  have hfit : ∀ x ∈ bksS 0 0 L, BFit x := by
    intro k hk
    obtain ⟨j, hj⟩ := List.getElem?_of_mem hk
    have hjl : j < L.length := by have := (List.getElem?_eq_some_iff.1 hj).1; rwa [bksS_len] at this
    obtain ⟨p, hp⟩ : ∃ p, L[j]? = some p := ⟨_, List.getElem?_eq_getElem hjl⟩
    rw [bksS_get L 0 0 j p hp] at hj
    cases hj
    have h1 := oldS_next hp; have h2 := newS_next hp
    have h3 := oldS_cut L (j + 1); have h4 := newS_cut L (j + 1)
    rw [h1] at h3; rw [h2] at h4
    have l3 := congrArg List.length h3; have l4 := congrArg List.length h4
    simp only [List.length_append] at l3 l4
    refine ⟨⟨by simp only; omega, by simp only; omega, by simp only; omega, by simp only; omega⟩, ?_, fun x hx => ?_⟩
    · have := c_le p.2; have := c_old p.2; have := c_new p.2
      simp only; omega
    · rcases ln_in hx with h | h
      · exact ha _ (by rw [h3]; simp [h])
      · exact hb _ (by rw [h4]; simp [h])
  have htk : ∀ t ∈ toks (bksS 0 0 L), TkOk t := by
    intro t ht
    obtain ⟨b, hb, rfl | ⟨x, hx, rfl⟩⟩ := mem_toks ht
    · have := (hfit b hb).sm
      exact ⟨⟨this.oa, this.ol, this.na, this.nl⟩, rfl⟩
    · exact (hfit b hb).ln x hx
  have hfew := toks_few L 0 0 hok
  have htl := toks_len (bksS 0 0 L)
  refine ⟨hfit, htk, by omega, ?_, by omega⟩
  have := joinT_le 100001 (toks (bksS 0 0 L)) (fun t ht => by
    have h := htk t ht
    cases t with
    | hdr b => have := hd_len h.1; show (hdL b).length ≤ _; omega
    | ln x =>
      have h2 := h.2
      show (sgn x.t :: x.s.data.toList).length ≤ _
      rw [List.length_cons, Array.length_toList]
      have : x.s.data.size = x.s.size := rfl
      omega)
  unfold fmtL
  have h9 : (toks (bksS 0 0 L)).length * (100001 + 1) ≤ 320 * (100001 + 1) := Nat.mul_le_mul_right _ (by omega)
  omega
end Go.Proofs.YtmmcjcaccicheaaGreatDoor
/- The iterator of the groups of hunks that share a block. No condition but that the hunks ascend. -/
namespace Go.Proofs.YtmmcjcaccicheaaGreatDoor
open Go.RowKit
attribute [local go_sem] Oper.semAt_some

/-! ### The plain side -/
/-- The places at which the groups begin and end. -/
def grpI (c : Nat) : Nat → Nat → List Hp → List (Nat × Nat)
  | _, _, [] => []
  | f, i, [_] => [(f, i + 1)]
  | f, i, h :: h2 :: r => if h2.at_ - h.at_ - h.old.length ≤ 2 * c then grpI c f (i + 1) (h2 :: r) else (f, i + 1) :: grpI c (i + 1) (i + 1) (h2 :: r)
def cutH (hs : List Hp) (p : Nat × Nat) : List Hp := (hs.drop p.1).take (p.2 - p.1)
theorem cut_more {hs : List Hp} {f i : Nat} {h : Hp} (hf : f ≤ i) (hh : hs[i]? = some h) : (hs.drop f).take (i + 1 - f) = (hs.drop f).take (i - f) ++ [h] := by
  rw [show i + 1 - f = (i - f) + 1 by omega]
  have : (hs.drop f)[i - f]? = some h := by rw [List.getElem?_drop, show f + (i - f) = i by omega]; exact hh
  exact take_succ_of this
theorem grpI_law (c : Nat) (hs : List Hp) : ∀ (l acc : List Hp) (f i : Nat), hs.drop i = l → acc = (hs.drop f).take (i - f) → f ≤ i → (grpI c f i l).map (cutH hs) = grpV c acc l
  | [], acc, f, i, _, _, _ => rfl
  | [h], acc, f, i, hd, ha, hf => by
    have hh : hs[i]? = some h := by have := List.getElem?_drop (xs := hs) (i := i) (j := 0); rw [hd] at this; simpa using this.symm
    simp only [grpI, grpV, List.map_cons, List.map_nil, cutH]
    rw [cut_more hf hh, ha]
  | h :: h2 :: r, acc, f, i, hd, ha, hf => by
    have hh : hs[i]? = some h := by have := List.getElem?_drop (xs := hs) (i := i) (j := 0); rw [hd] at this; simpa using this.symm
    have hd2 : hs.drop (i + 1) = h2 :: r := by
      have := drop_of hh
      rw [hd] at this
      exact (List.cons.inj this).2.symm
    have hacc : acc ++ [h] = (hs.drop f).take (i + 1 - f) := by rw [cut_more hf hh, ha]
    rw [grpI, grpV]
    split
    · exact grpI_law c hs (h2 :: r) (acc ++ [h]) f (i + 1) hd2 hacc (by omega)
    · rw [List.map_cons]
      refine congr (congrArg _ ?_) (grpI_law c hs (h2 :: r) [] (i + 1) (i + 1) hd2 (by simp) (Nat.le_refl _))
      simp only [cutH]; exact hacc.symm
/-- The hunks ascend. -/
def Asc3 (hs : List Hp) : Prop := ∀ (i : Nat) (h h2 : Hp), hs[i]? = some h → hs[i + 1]? = some h2 → h.at_ + h.old.length ≤ h2.at_
theorem hksG_asc (L : List Sg) (x : Nat) : Asc3 (hksG x L) := by
  intro i h h2 hh hh2
  have hi : i + 1 < L.length := by have := (List.getElem?_eq_some_iff.1 hh2).1; rwa [hksG_len] at this
  obtain ⟨p, hp⟩ : ∃ p, L[i]? = some p := ⟨_, List.getElem?_eq_getElem (by omega)⟩
  obtain ⟨q, hq⟩ : ∃ p, L[i + 1]? = some p := ⟨_, List.getElem?_eq_getElem hi⟩
  rw [hksG_get L x i p hp] at hh
  rw [hksG_get L x (i + 1) q hq] at hh2
  cases hh; cases hh2
  rw [oldG_next hp]
  simp only [List.length_append]; omega

/-! ### The iterator -/
def EncG (A : Option Addr) (c : Nat) (p : Nat × Nat) (vs : Array Value) (_S : Nat → Prop) (_W : World) : Prop := vs = #[.slice (A.map (fun x => x.add (p.1 * 3))) (p.2 - p.1) (c - p.1)]
/-- What the iterator asks. -/
structure PreG (w0 : World) (q1 q2 : Nat) (l : Value) (cx : Nat) (S : Nat → Prop) (W : World) : Prop where
  ext : Ext w0 W
  low : ∀ g, g < w0.heap.size → ¬ S g
  b1 : Blk W q1 (.cells #[l] 32)
  b2 : Blk W q2 (.cells #[.int .i64 cx] 3)
  n1 : ¬ S q1
  n2 : ¬ S q2
theorem PreG.e {w0 : World} {q1 q2 : Nat} {l : Value} {cx : Nat} {S : Nat → Prop} {W W' : World} (h : PreG w0 q1 q2 l cx S W) (e : Ext W W') : PreG w0 q1 q2 l cx S W' := ⟨h.ext.trans e, h.low, h.b1.ext e, h.b2.ext e, h.n1, h.n2⟩
theorem PreG.next {w0 : World} {q1 q2 : Nat} {l : Value} {cx : Nat} {S S' : Nat → Prop} {W W' : World} (h : PreG w0 q1 q2 l cx S W) (k : Lv S W W') (hS : ∀ g, S' g → S g ∨ W.heap.size ≤ g) : PreG w0 q1 q2 l cx S' W' := by
  have := h.ext.size; have h1 := h.b1.lt; have h2 := h.b2.lt
  exact ⟨k.extBelow h.ext h.low, fun g hg hs => (hS g hs).elim (h.low g hg) (by omega), h.b1.lv k h.n1, h.b2.lv k h.n2, fun hs => (hS _ hs).elim h.n1 (by omega), fun hs => (hS _ hs).elim h.n2 (by omega)⟩
set_option maxRecDepth 100000 in
set_option maxHeartbeats 4000000 in
theorem groups_iter (w0 : World) (A : Option Addr) (n c cx : Nat) (hs : List Hp) (hh : Hps w0 A n hs) (hn : n ≤ 1000) (hnc : n ≤ c) (_hc0 : c ≤ maxLen) (hasc : Asc3 hs) (hat : ∀ h ∈ hs, h.at_ ≤ 100000 ∧ h.old.length ≤ 100000) (hcx : cx ≤ 100) (q1 q2 : Nat) :
    Iter Tryz.prog 63 #[.pointer (some ⟨q1, 0, none⟩), .pointer (some ⟨q2, 0, none⟩)] (EncG A c) (grpI cx 0 0 hs) (fun _ => False) (PreG w0 q1 q2 (.slice A n c) cx) := by
  have hlen := hh.len
  intro ly J Jx S W hP hSz hJ hJx hY h0
  have HP := Lib.hid hP; have HJ := Lib.hid hJ; have HJX := Lib.hid hJx; have HY := Lib.hid hY; have H0 := Lib.hid h0; have HZ := Lib.hid hSz; have HH := Lib.hid hh; have HA := Lib.hid hasc; have HT := Lib.hid hat; have HL := Lib.hid hlen; clear hP hSz hJ hJx hY h0 hh hasc hat hlen
  refine callsIn_wide.2 ?_
  simp only [List.append_toArray, List.cons_append, List.nil_append]
  have b1 : W.cell? ⟨q1, 0, none⟩ = some (.slice A n c) := HP.out.b1.cell 0
  go_enter Tryz.func63, Tryz.ntmps63
  go_wp2_with fail
  go_loopw [4, 8] (fun f v wr => ∃ (i j : Nat) (pre : List (Nat × Nat)) (S' : Nat → Prop), i ≤ n ∧ j ≤ i ∧ v = .int .i64 i ∧ f = .int .i64 j ∧ grpI cx 0 0 hs = pre ++ grpI cx j i (hs.drop i) ∧ J pre S' wr ∧ PreG w0 q1 q2 (.slice A n c) cx S' wr ∧ (∀ h, S' h → h < wr.heap.size)) (fun _ v _ => n - (intOf v).toNat)
  case atStart => exact ⟨0, 0, [], S, Nat.zero_le _, Nat.zero_le _, rfl, rfl, rfl, H0.out, HP.out, HZ.out⟩
  case round =>
    obtain ⟨i, j, pre, S1, hi, hj, rfl, rfl, hg, hJ1, hP1, hZ1⟩ := hrel
    have HG := Lib.hid hg; have HJ1 := Lib.hid hJ1; have HP1 := Lib.hid hP1; have HZ1 := Lib.hid hZ1; clear hg hJ1 hP1 hZ1
    have b1 : wr.cell? ⟨q1, 0, none⟩ = some (.slice A n c) := HP1.out.b1.cell 0
    have b2 : wr.cell? ⟨q2, 0, none⟩ = some (.int .i64 cx) := HP1.out.b2.cell 0
    by_cases hlt : i < n
    · obtain ⟨b, off, y, x, rfl, hb, hx, hr, c0, c1, c2⟩ := (HH.out.ext HP1.out.ext).get hlt
      have hdr := drop_of hx
      have hxT := HT.out x (mem_of_get hx)
      have hya := hr.at_; have hyo := hr.old.1
      have HX := Lib.hid hx; have HD := Lib.hid hdr
      obtain ⟨yat, yoa, yol, yoc, yna, ynl, ync⟩ := y
      dsimp only at c0 c1 c2 hya hyo
      subst hya
      subst hyo
      by_cases hlast : i + 1 < n
      · obtain ⟨b', off', y2, x2, hA2, hb2, hx2, hr2, e0, e1, e2⟩ := (HH.out.ext HP1.out.ext).get hlast
        obtain ⟨rfl, rfl⟩ : b = b' ∧ off = off' := by simpa using hA2
        have hx2T := HT.out x2 (mem_of_get hx2)
        have hasc := HA.out i x x2 hx hx2
        have hya2 := hr2.at_
        obtain ⟨yat2, yoa2, yol2, yoc2, yna2, ynl2, ync2⟩ := y2
        dsimp only at e0 e1 e2 hya2
        subst hya2
        have HX2 := Lib.hid hx2
        have HD2 := Lib.hid (drop_of hx2)
        clear hx hr hx2 hr2 hdr hA2
        have t1 : ((i : Int) + 1).toNat = i + 1 := by omega
        have t2 : (i : Int) + 1 < n := by omega
        have t3 : IntKind.i64.wrap ((i : Int) + 1) = (i : Int) + 1 := IntWalk.i64_in _ (by omega)
        have t4 : IntKind.i64.wrap ((x2.at_ : Int) - x.at_) = (x2.at_ : Int) - x.at_ := IntWalk.i64_in _ (by omega)
        have t5 : IntKind.i64.wrap ((x2.at_ : Int) - x.at_ - x.old.length) = (x2.at_ : Int) - x.at_ - x.old.length := IntWalk.i64_in _ (by omega)
        have t6 : IntKind.i64.wrap (2 * (cx : Int)) = 2 * (cx : Int) := IntWalk.i64_in _ (by omega)
        by_cases hcl : x2.at_ - x.at_ - x.old.length ≤ 2 * cx
        · have t7 : decide ((x2.at_ : Int) - x.at_ - x.old.length ≤ 2 * cx) = true := yd (by omega)
          have HCL := Lib.hid hcl; clear hcl
          go_wp2_with fail
          go_quiet (fail)
          obtain ⟨w3, hw3⟩ : ∃ w3, w3 = wr.drewN nq := ⟨_, rfl⟩
          have hE3 : Ext wr w3 := by rw [hw3]; exact (Ext.refl wr).drewN _
          have hJw : J pre S1 w3 := HJ.out _ _ _ _ HJ1.out (Lv.of_ext hE3)
          have hPw := HP1.out.e hE3
          have hZw : ∀ h, S1 h → h < w3.heap.size := fun h hh => Nat.lt_of_lt_of_le (HZ1.out h hh) hE3.size
          have hg2 : grpI cx 0 0 hs = pre ++ grpI cx j (i + 1) (hs.drop (i + 1)) := by
            rw [HG.out, HD.out, HD2.out, grpI, if_pos HCL.out]
          rw [← hw3]
          have HJ3 := Lib.hid hJw; have HP3 := Lib.hid hPw; have HZ3 := Lib.hid hZw; have HG2 := Lib.hid hg2
          clear hw3 hE3 hJw hPw hZw b1 b2 hg2 c0 c1 c2 e0 e1 e2
          go_wp2_with fail
          go_roundw
          case rel => exact ⟨i + 1, j, pre, S1, by omega, by omega, by go_num, rfl, HG2.out, HJ3.out, HP3.out, HZ3.out⟩
          case measure => simp [intOf]; omega
        · have t7 : decide ((x2.at_ : Int) - x.at_ - x.old.length ≤ 2 * cx) = false := nd (by omega)
          have HCL := Lib.hid hcl; clear hcl
          have hdr2 : grpI cx 0 0 hs = pre ++ [(j, i + 1)] ++ grpI cx (i + 1) (i + 1) (hs.drop (i + 1)) := by
            rw [HG.out, HD.out, HD2.out, grpI, if_neg HCL.out]
            simp
          have HG2 := Lib.hid hdr2; clear hdr2
          go_wp2_with fail
          go_quiet (fail)
          obtain ⟨w3, hw3⟩ : ∃ w3, w3 = wr.drewN nq := ⟨_, rfl⟩
          have hE3 : Ext wr w3 := by rw [hw3]; exact (Ext.refl wr).drewN _
          have hJw : J pre S1 w3 := HJ.out _ _ _ _ HJ1.out (Lv.of_ext hE3)
          have hPw := HP1.out.e hE3
          have hZw : ∀ h, S1 h → h < w3.heap.size := fun h hh => Nat.lt_of_lt_of_le (HZ1.out h hh) hE3.size
          have d1 : w3.cell? ⟨q1, 0, none⟩ = some (.slice (some ⟨b, off, none⟩) n c) := hPw.b1.cell 0
          rw [← hw3]
          have HJ3 := Lib.hid hJw; have HP3 := Lib.hid hPw; have HZ3 := Lib.hid hZw
          clear hw3 hE3 hJw hPw hZw b1 b2
          have hpx : pre ++ [(j, i + 1)] <+: grpI cx 0 0 hs := ⟨_, HG2.out.symm⟩
          have hR := HY.out pre (j, i + 1) #[.slice (some ⟨b, off + j * 3, none⟩) (i + 1 - j) (c - j)] S1 w3 HJ3.out hpx (by unfold EncG; simp [Addr.add])
          have HR1 := Lib.hid hR; have HPX := Lib.hid hpx
          clear hR hpx
          obtain ⟨fn, tmps, assign, body, hy, hRR⟩ := HR1.out
          rename ∀ a w, Code.wp Tryz.prog (((Code.region 5 _ _).seq _).seq _) _ a w → _ => hK3
          have HK3 := Lib.hid hK3; clear hK3
          go_wp2_with fail
          refine HK3.out _ _ ?_
          clear HK3
          refine wp_of_In ?_
          gi_wp2
          refine ⟨rfl, hRR.mono ?_⟩
          rintro e W6 ⟨S3, hv2, hs2, hz2, (⟨rfl, hJ2⟩ | ⟨rfl, hJx2⟩)⟩
          case inr =>
            clear hy hRR
            have HX := Lib.hid hJx2; clear hv2 hs2 hz2 hJx2
            gi_wp2
            go_wp2_with fail
            refine bodyPost_ret (results_none rfl _ _ _) rfl ?_
            exact ⟨⟨_, rfl⟩, .inr ⟨_, _, HPX.out, HX.out⟩⟩
          case inl =>
            have HP6 := Lib.hid (HP3.out.next hv2 hs2); have HZ6 := Lib.hid hz2
            have HJ6 := Lib.hid hJ2
            clear hy hRR hv2 hs2 hz2 hJ2 HP3 HJ3 HR1 d1
            gi_wp2
            go_wp2_with fail
            go_roundw
            case rel => exact ⟨i + 1, i + 1, pre ++ [(j, i + 1)], S3, by omega, by omega, by go_num, by go_num, HG2.out, HJ6.out, HP6.out, HZ6.out⟩
            case measure => simp [intOf]; omega
      · have t2 : ¬ ((i : Int) + 1 < n) := by omega
        have t3 : IntKind.i64.wrap ((i : Int) + 1) = (i : Int) + 1 := IntWalk.i64_in _ (by omega)
        have t5 : decide ((i : Int) + 1 < n) = false := nd (by omega)
        have hnil : hs.drop (i + 1) = [] := List.drop_of_length_le (by rw [HL.out]; omega)
        have HNL := Lib.hid hnil
        clear hx hr hdr hnil
        have hdr2 : grpI cx 0 0 hs = pre ++ [(j, i + 1)] ++ grpI cx (i + 1) (i + 1) (hs.drop (i + 1)) := by
          rw [HG.out, HD.out, HNL.out, grpI, grpI]
          simp
        have HG2 := Lib.hid hdr2; clear hdr2
        go_wp2_with fail
        go_quiet (fail)
        obtain ⟨w3, hw3⟩ : ∃ w3, w3 = wr.drewN nq := ⟨_, rfl⟩
        have hE3 : Ext wr w3 := by rw [hw3]; exact (Ext.refl wr).drewN _
        have hJw : J pre S1 w3 := HJ.out _ _ _ _ HJ1.out (Lv.of_ext hE3)
        have hPw := HP1.out.e hE3
        have hZw : ∀ h, S1 h → h < w3.heap.size := fun h hh => Nat.lt_of_lt_of_le (HZ1.out h hh) hE3.size
        have d1 : w3.cell? ⟨q1, 0, none⟩ = some (.slice (some ⟨b, off, none⟩) n c) := hPw.b1.cell 0
        rw [← hw3]
        have HJ3 := Lib.hid hJw; have HP3 := Lib.hid hPw; have HZ3 := Lib.hid hZw
        clear hw3 hE3 hJw hPw hZw b1 b2
        have hpx : pre ++ [(j, i + 1)] <+: grpI cx 0 0 hs := ⟨_, HG2.out.symm⟩
        have hR := HY.out pre (j, i + 1) #[.slice (some ⟨b, off + j * 3, none⟩) (i + 1 - j) (c - j)] S1 w3 HJ3.out hpx (by unfold EncG; simp [Addr.add])
        have HR1 := Lib.hid hR; have HPX := Lib.hid hpx
        clear hR hpx
        obtain ⟨fn, tmps, assign, body, hy, hRR⟩ := HR1.out
        rename ∀ a w, Code.wp Tryz.prog (((Code.region 5 _ _).seq _).seq _) _ a w → _ => hK3
        have HK3 := Lib.hid hK3; clear hK3
        go_wp2_with fail
        refine HK3.out _ _ ?_
        clear HK3
        refine wp_of_In ?_
        gi_wp2
        refine ⟨rfl, hRR.mono ?_⟩
        rintro e W6 ⟨S3, hv2, hs2, hz2, (⟨rfl, hJ2⟩ | ⟨rfl, hJx2⟩)⟩
        case inr =>
          clear hy hRR
          have HX := Lib.hid hJx2; clear hv2 hs2 hz2 hJx2
          gi_wp2
          go_wp2_with fail
          refine bodyPost_ret (results_none rfl _ _ _) rfl ?_
          exact ⟨⟨_, rfl⟩, .inr ⟨_, _, HPX.out, HX.out⟩⟩
        case inl =>
          have HP6 := Lib.hid (HP3.out.next hv2 hs2); have HZ6 := Lib.hid hz2
          have HJ6 := Lib.hid hJ2
          clear hy hRR hv2 hs2 hz2 hJ2 HP3 HJ3 HR1 d1
          gi_wp2
          go_wp2_with fail
          go_roundw
          case rel => exact ⟨i + 1, i + 1, pre ++ [(j, i + 1)], S3, by omega, by omega, by go_num, by go_num, HG2.out, HJ6.out, HP6.out, HZ6.out⟩
          case measure => simp [intOf]; omega
    · have hnil : hs.drop i = [] := List.drop_of_length_le (by rw [HL.out]; omega)
      have hJ9 := HJ1.out
      have hpre : pre = grpI cx 0 0 hs := by rw [HG.out, hnil]; simp [grpI]
      rw [hpre] at hJ9
      go_wp2_with fail
      refine bodyPost_end (results_none rfl _ _ _) rfl ⟨⟨_, rfl⟩, .inl ⟨_, hJ9⟩⟩
end Go.Proofs.YtmmcjcaccicheaaGreatDoor
/- What Blocks computes, group by group. Plain. -/
namespace Go.Proofs.YtmmcjcaccicheaaGreatDoor

/-! ### The groups' places -/
/-- From f to i the hunks stand one group before another. -/
theorem grpI_shape (c : Nat) : ∀ (l : List Hp) (f i : Nat) (pre post : List (Nat × Nat)) (p : Nat × Nat), grpI c f i l = pre ++ p :: post → f ≤ i → p.1 < p.2 ∧ p.2 ≤ i + l.length ∧ f ≤ p.1
  | [], f, i, pre, post, p, h, _ => by simp [grpI] at h
  | [h], f, i, pre, post, p, he, hf => by
    simp only [grpI] at he
    cases pre with
    | nil => simp only [List.nil_append, List.cons.injEq] at he; obtain ⟨rfl, _⟩ := he; exact ⟨by show f < i + 1; omega, by simp, Nat.le_refl _⟩
    | cons a r => simp at he
  | h :: h2 :: r, f, i, pre, post, p, he, hf => by
    rw [grpI] at he
    split at he
    · have := grpI_shape c (h2 :: r) f (i + 1) pre post p he (by omega)
      simp only [List.length_cons] at this ⊢; omega
    · cases pre with
      | nil =>
        simp only [List.nil_append, List.cons.injEq] at he; obtain ⟨rfl, _⟩ := he
        exact ⟨by show f < i + 1; omega, by simp only [List.length_cons]; omega, Nat.le_refl _⟩
      | cons a q =>
        simp only [List.cons_append, List.cons.injEq] at he
        have := grpI_shape c (h2 :: r) (i + 1) (i + 1) q post p he.2 (Nat.le_refl _)
        simp only [List.length_cons] at this ⊢; omega
theorem take_sub {α : Type} (l : List α) (a b : Nat) (h : a ≤ b) : l.take b = l.take a ++ (l.drop a).take (b - a) := by
  conv => lhs; rw [show b = a + (b - a) by omega, List.take_add]
theorem cut_sub {α : Type} (l : List α) {f a b : Nat} (h : f ≤ a) (h2 : a ≤ b) : (l.drop f).take (b - f) = (l.drop f).take (a - f) ++ (l.drop a).take (b - a) := by
  rw [take_sub (l.drop f) (a - f) (b - f) (by omega), List.drop_drop, show f + (a - f) = a by omega, show b - f - (a - f) = b - a by omega]
/-- What stands ahead of a group. -/
theorem grpI_flat (c : Nat) (hs : List Hp) : ∀ (l : List Hp) (f i : Nat) (pre post : List (Nat × Nat)) (p : Nat × Nat), hs.drop i = l → grpI c f i l = pre ++ p :: post → f ≤ i → (pre.map (cutH hs)).flatten = (hs.drop f).take (p.1 - f)
  | [], f, i, pre, post, p, _, h, _ => by simp [grpI] at h
  | [h], f, i, pre, post, p, hd, he, hf => by
    simp only [grpI] at he
    cases pre with
    | nil => simp only [List.nil_append, List.cons.injEq] at he; obtain ⟨rfl, _⟩ := he; simp
    | cons a r => simp at he
  | h :: h2 :: r, f, i, pre, post, p, hd, he, hf => by
    have hh : hs[i]? = some h := by have := List.getElem?_drop (xs := hs) (i := i) (j := 0); rw [hd] at this; simpa using this.symm
    have hd2 : hs.drop (i + 1) = h2 :: r := by
      have := drop_of hh
      rw [hd] at this
      exact (List.cons.inj this).2.symm
    rw [grpI] at he
    split at he
    · exact grpI_flat c hs (h2 :: r) f (i + 1) pre post p hd2 he (by omega)
    · cases pre with
      | nil => simp only [List.nil_append, List.cons.injEq] at he; obtain ⟨rfl, _⟩ := he; simp
      | cons a q =>
        simp only [List.cons_append, List.cons.injEq] at he
        have ih := grpI_flat c hs (h2 :: r) (i + 1) (i + 1) q post p hd2 he.2 (Nat.le_refl _)
        have hsh := grpI_shape c (h2 :: r) (i + 1) (i + 1) q post p he.2 (Nat.le_refl _)
        obtain rfl := he.1
        rw [List.map_cons, List.flatten_cons, ih, cut_sub hs (f := f) (a := i + 1) (b := p.1) (by omega) hsh.2.2]
        rfl
/-- A group begins at the first hunk, or behind a wide gap. -/
theorem grpI_gap (c : Nat) (hs : List Hp) : ∀ (l : List Hp) (f i : Nat) (pre post : List (Nat × Nat)) (p : Nat × Nat), hs.drop i = l → grpI c f i l = pre ++ p :: post → f ≤ i →
    p.1 = f ∨ ∃ (j : Nat) (h h2 : Hp), p.1 = j + 1 ∧ hs[j]? = some h ∧ hs[j + 1]? = some h2 ∧ 2 * c < h2.at_ - h.at_ - h.old.length
  | [], f, i, pre, post, p, _, h, _ => by simp [grpI] at h
  | [h], f, i, pre, post, p, hd, he, hf => by
    simp only [grpI] at he
    cases pre with
    | nil => simp only [List.nil_append, List.cons.injEq] at he; obtain ⟨rfl, _⟩ := he; exact .inl rfl
    | cons a r => simp at he
  | h :: h2 :: r, f, i, pre, post, p, hd, he, hf => by
    have hh : hs[i]? = some h := by have := List.getElem?_drop (xs := hs) (i := i) (j := 0); rw [hd] at this; simpa using this.symm
    have hd2 : hs.drop (i + 1) = h2 :: r := by
      have := drop_of hh
      rw [hd] at this
      exact (List.cons.inj this).2.symm
    have hh2 : hs[i + 1]? = some h2 := by have := List.getElem?_drop (xs := hs) (i := i + 1) (j := 0); rw [hd2] at this; simpa using this.symm
    rw [grpI] at he
    split at he
    · exact grpI_gap c hs (h2 :: r) f (i + 1) pre post p hd2 he (by omega)
    · rename_i hc
      cases pre with
      | nil => simp only [List.nil_append, List.cons.injEq] at he; obtain ⟨rfl, _⟩ := he; exact .inl rfl
      | cons a q =>
        simp only [List.cons_append, List.cons.injEq] at he
        rcases grpI_gap c hs (h2 :: r) (i + 1) (i + 1) q post p hd2 he.2 (Nat.le_refl _) with e | e
        · exact .inr ⟨i, h, h2, e, hh, hh2, by omega⟩
        · exact .inr e

/-! ### Bodies -/
def preB (a : Lns) : Nat → List Hp → Bdy
  | _, [] => []
  | at_, h :: r => tg .ctx ((a.drop at_).take (h.at_ - at_)) ++ tg .del h.old ++ tg .add h.new ++ preB a (h.at_ + h.old.length) r
theorem lastE_snoc (h : Hp) : ∀ (l : List Hp) (e : Nat), lastE e (l ++ [h]) = h.at_ + h.old.length
  | [], _ => rfl
  | x :: l, e => by simp only [List.cons_append, lastE]; exact lastE_snoc h l _
theorem lastE_any : ∀ (l : List Hp) (e e' : Nat), l ≠ [] → lastE e l = lastE e' l
  | [], _, _, h => absurd rfl h
  | _ :: _, _, _, _ => rfl
theorem preB_snoc (a : Lns) (h : Hp) : ∀ (l : List Hp) (at_ : Nat), preB a at_ (l ++ [h]) = preB a at_ l ++ (tg .ctx ((a.drop (lastE at_ l)).take (h.at_ - lastE at_ l)) ++ tg .del h.old ++ tg .add h.new)
  | [], at_ => by simp [preB, lastE]
  | x :: l, at_ => by simp only [List.cons_append, preB, lastE, preB_snoc a h l, List.append_assoc]
theorem bodyV_pre (a : Lns) (e : Nat) : ∀ (l : List Hp) (at_ : Nat), bodyV a e at_ l = preB a at_ l ++ tg .ctx ((a.drop (lastE at_ l)).take (e - lastE at_ l))
  | [], at_ => by simp [preB, lastE, bodyV]
  | x :: l, at_ => by simp only [preB, lastE, bodyV, bodyV_pre a e l, List.append_assoc]
theorem sumD_app : ∀ (a b : List Hp), sumD (a ++ b) = sumD a + sumD b
  | [], b => by simp [sumD]
  | x :: a, b => by simp only [List.cons_append, sumD, sumD_app a b]; omega
/-- The shift behind some groups. -/
def shT (s : Int) : List (List Hp) → Int
  | [] => s
  | g :: r => shT (s + sumD g) r
theorem shT_flat : ∀ (gs : List (List Hp)) (s : Int), shT s gs = s + sumD gs.flatten
  | [], s => by simp [shT, sumD]
  | g :: r, s => by rw [shT, shT_flat r, List.flatten_cons, sumD_app]; omega
theorem blksV_snoc (a : Lns) (c : Nat) (h : Hp) (r : List Hp) : ∀ (gs : List (List Hp)) (s : Int), (∀ g ∈ gs, g ≠ []) → blksV a c s (gs ++ [h :: r]) = blksV a c s gs ++ [blkV a c (shT s gs) h r]
  | [], s, _ => rfl
  | [] :: gs, s, hg => absurd rfl (hg [] (by simp))
  | (x :: g) :: gs, s, hg => by
    simp only [List.cons_append, blksV, shT]
    rw [blksV_snoc a c h r gs _ (fun g hg' => hg g (by simp [hg']))]

/-! ### The hunks of segments -/
theorem hksG_take : ∀ (L : List Sg) (x k : Nat), (hksG x L).take k = hksG x (L.take k)
  | [], _, _ => by simp [hksG]
  | s :: r, x, 0 => by simp [hksG]
  | s :: r, x, k + 1 => by simp only [hksG, List.take_succ_cons, hksG_take r]
theorem sumD_take (L : List Sg) (k : Nat) : sumD ((hksG 0 L).take k) = ((newG (L.take k)).length : Int) - (oldG (L.take k)).length := by
  rw [hksG_take, sumD_hks]
/-- All that the walk of a group wants of its numbers. -/
structure GrpN (L : List Sg) (n cx f u : Nat) (pre : List (Nat × Nat)) : Prop where
  lt : f < u
  le : u ≤ L.length
  sh : shT 0 (pre.map (cutH (hksG 0 L))) = ((newG (L.take f)).length : Int) - (oldG (L.take f)).length
  wide : f = 0 ∨ ∀ (p : Sg), L[f]? = some p → 2 * cx < p.k.length
theorem grpN_of {L : List Sg} {cx f u : Nat} {pre : List (Nat × Nat)} (n : Nat) (h : pre ++ [(f, u)] <+: grpI cx 0 0 (hksG 0 L)) : GrpN L n cx f u pre := by
  obtain ⟨post, hp⟩ := h
  rw [List.append_assoc] at hp
  have hp' : grpI cx 0 0 (hksG 0 L) = pre ++ (f, u) :: post := hp.symm
  have h1 := grpI_shape cx (hksG 0 L) 0 0 pre post (f, u) hp' (Nat.le_refl _)
  have h2 := grpI_flat cx (hksG 0 L) (hksG 0 L) 0 0 pre post (f, u) rfl hp' (Nat.le_refl _)
  have h3 := grpI_gap cx (hksG 0 L) (hksG 0 L) 0 0 pre post (f, u) rfl hp' (Nat.le_refl _)
  rw [hksG_len] at h1
  refine ⟨h1.1, by have := h1.2.1; simp only at this; omega, ?_, ?_⟩
  · rw [shT_flat, h2, List.drop_zero, Nat.sub_zero, sumD_take, Int.zero_add]
  · rcases h3 with e | ⟨j, x, y, e, hx, hy, hg⟩
    · exact .inl e
    · refine .inr (fun p hpp => ?_)
      simp only at e
      subst e
      have hj : j < L.length := by have := (List.getElem?_eq_some_iff.1 hx).1; rwa [hksG_len] at this
      obtain ⟨q, hq⟩ : ∃ q, L[j]? = some q := ⟨_, List.getElem?_eq_getElem hj⟩
      rw [hksG_get L 0 j q hq] at hx
      rw [hksG_get L 0 (j + 1) p hpp] at hy
      cases hx; cases hy
      rw [oldG_next hq] at hg
      simp only [List.length_append] at hg
      omega
theorem cutH_get {hs : List Hp} {f u j : Nat} (h : j < u - f) : (cutH hs (f, u))[j]? = hs[f + j]? := by
  unfold cutH
  rw [List.getElem?_take_of_lt h, List.getElem?_drop]
theorem cutH_len {hs : List Hp} {f u : Nat} (h : u ≤ hs.length) : (cutH hs (f, u)).length = u - f := by
  unfold cutH
  rw [List.length_take, List.length_drop]; simp only; omega
theorem cutH_take {hs : List Hp} {f u j : Nat} (h : j ≤ u - f) : (cutH hs (f, u)).take j = (hs.drop f).take j := by
  unfold cutH
  rw [List.take_take]; congr 1; simp only; omega
/-- The end of the hunks ahead of the j-th of a group. -/
theorem lastE_dt {L : List Sg} {f j : Nat} (e : Nat) (hj : 0 < j) (hu : f + j ≤ L.length) : lastE e (((hksG 0 L).drop f).take j) = (oldG (L.take (f + j))).length := by
  obtain ⟨i, rfl⟩ : ∃ i, j = i + 1 := ⟨j - 1, by omega⟩
  have hl : f + i < L.length := by omega
  obtain ⟨q, hq⟩ : ∃ q, L[f + i]? = some q := ⟨_, List.getElem?_eq_getElem hl⟩
  have hg := hksG_get L 0 (f + i) q hq
  have h2 : ((hksG 0 L).drop f)[i]? = some ⟨0 + (oldG (L.take (f + i))).length + q.k.length, q.o, q.n⟩ := by rw [List.getElem?_drop]; exact hg
  rw [take_succ_of h2, lastE_snoc, ← Nat.add_assoc, oldG_next hq]
  simp only [List.length_append]; omega
theorem sumD_cut (L : List Sg) (f j : Nat) : sumD (((hksG 0 L).drop f).take j) = (((newG (L.take (f + j))).length : Int) - (oldG (L.take (f + j))).length) - (((newG (L.take f)).length : Int) - (oldG (L.take f)).length) := by
  have h := take_sub (hksG 0 L) f (f + j) (by omega)
  have h2 := congrArg sumD h
  rw [sumD_app, sumD_take, sumD_take, show f + j - f = j by omega] at h2
  omega
theorem tg_len (x : Tg) (l : Lns) : (tg x l).length = l.length := by simp [tg]
/-- The lines of the bodies are few. -/
theorem preB_len (a : Lns) (L : List Sg) (f at_ : Nat) : ∀ j, f + j ≤ L.length → (preB a at_ (((hksG 0 L).drop f).take j)).length + (newG (L.take f)).length ≤ (oldG (L.take (f + j))).length + (newG (L.take (f + j))).length
  | 0, _ => by simp [preB]
  | j + 1, h => by
    have ih := preB_len a L f at_ j (by omega)
    obtain ⟨q, hq⟩ : ∃ q, L[f + j]? = some q := ⟨_, List.getElem?_eq_getElem (by omega)⟩
    have hg := hksG_get L 0 (f + j) q hq
    have h2 : ((hksG 0 L).drop f)[j]? = some ⟨0 + (oldG (L.take (f + j))).length + q.k.length, q.o, q.n⟩ := by rw [List.getElem?_drop]; exact hg
    have hO := congrArg List.length (oldG_next hq); have hN := congrArg List.length (newG_next hq)
    simp only [List.length_append] at hO hN
    rw [take_succ_of h2, preB_snoc]
    simp only [List.length_append, tg_len, List.length_take, List.length_drop]
    rw [← Nat.add_assoc f j 1, hO, hN]
    rcases Nat.eq_zero_or_pos j with rfl | hj
    · simp only [List.take_zero, preB, List.length_nil, lastE, Nat.add_zero] at ih hO hN ⊢
      omega
    · rw [lastE_dt at_ hj (by omega)] at *
      omega
theorem grpI_len (c : Nat) : ∀ (l : List Hp) (f i : Nat), (grpI c f i l).length ≤ l.length
  | [], _, _ => Nat.le_refl _
  | [_], _, _ => Nat.le_refl _
  | h :: h2 :: r, f, i => by
    rw [grpI]
    split
    · have := grpI_len c (h2 :: r) f (i + 1)
      simp only [List.length_cons] at this ⊢; omega
    · have := grpI_len c (h2 :: r) (i + 1) (i + 1)
      simp only [List.length_cons] at this ⊢; omega
theorem blksV_len (a : Lns) (c : Nat) : ∀ (gs : List (List Hp)) (s : Int), (blksV a c s gs).length ≤ gs.length
  | [], _ => Nat.le_refl _
  | [] :: r, s => by have := blksV_len a c r s; simp only [blksV, List.length_cons]; omega
  | (h :: t) :: r, s => by have := blksV_len a c r (s + sumD (h :: t)); simp only [blksV, List.length_cons]; omega
theorem grpI_ne {L : List Sg} {cx : Nat} {pre : List (Nat × Nat)} (h : pre <+: grpI cx 0 0 (hksG 0 L)) : ∀ g ∈ pre.map (cutH (hksG 0 L)), g ≠ [] := by
  intro g hg
  obtain ⟨p, hp, rfl⟩ := List.mem_map.1 hg
  obtain ⟨x, y, rfl⟩ := List.append_of_mem hp
  obtain ⟨post, hh⟩ := h
  have hh' : grpI cx 0 0 (hksG 0 L) = x ++ p :: (y ++ post) := by rw [← hh]; simp
  have h1 := grpI_shape cx (hksG 0 L) 0 0 x (y ++ post) p hh' (Nat.le_refl _)
  intro e
  have h2 := congrArg List.length e
  obtain ⟨f, u⟩ := p
  rw [cutH_len (by have := h1.2.1; simp only at this ⊢; omega)] at h2
  simp at h2
  have := h1.1; simp only at this; omega
theorem shT_snoc (g : List Hp) (gs : List (List Hp)) (s : Int) : shT s (gs ++ [g]) = shT s gs + sumD g := by
  rw [shT_flat, shT_flat, List.flatten_append, sumD_app]; simp; omega
end Go.Proofs.YtmmcjcaccicheaaGreatDoor

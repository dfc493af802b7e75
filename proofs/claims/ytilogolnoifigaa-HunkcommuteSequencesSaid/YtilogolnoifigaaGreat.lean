/- Hunks with their lines in memory; the contracts of the functions that look at lines: SameHunk, Great, great. -/
import Derived.Test.YtilogolnoifigaaCommute
namespace Go.Proofs.Ytilogolnoifigaa
open Go.RowKit

/-- A hunk with its lines. -/
structure AH where
  at_ : Int
  old : List ByteArray
  new : List ByteArray

/-- The Go value h is the hunk x. -/
def RH (w : World) (h : Hk) (x : AH) : Prop := h.small ∧ h.at_ = x.at_ ∧ Strs w h.oa h.ol x.old ∧ Strs w h.na h.nl x.new
theorem RH.ext {w w' : World} {h : Hk} {x : AH} (r : RH w h x) (e : Ext w w') : RH w' h x := ⟨r.1, r.2.1, r.2.2.1.ext e, r.2.2.2.ext e⟩

def AH.same (x y : AH) : Bool := decide (x.at_ = y.at_) && (decide (x.old = y.old) && decide (x.new = y.new))
theorem AH.same_refl (x : AH) : x.same x = true := by simp [AH.same]

theorem blks3 (w : World) (o0 o1 : Obj) : Blk ((w.alloc o0).alloc o1) w.heap.size o0 ∧ Blk ((w.alloc o0).alloc o1) (w.heap.size + 1) o1 := ⟨(Blk.new w o0 rfl).alloc o1, Blk.new (w.alloc o0) o1 (by simp)⟩

set_option maxHeartbeats 1000000 in
theorem sameHunk_any (a b : Hk) (x y : AH) (w : World) (ha : RH w a x) (hb : RH w b y) :
    Calls Try.prog 13 #[a.val, b.val] w fun e w' => e = .returned (.bool (x.same y)) ∧ Ext w w' := by
  have HA := Lib.hid ha; have HB := Lib.hid hb; clear ha hb
  have HE0 := Lib.hid (((Ext.refl w).alloc a.obj).alloc b.obj)
  by_cases h1 : a.at_ = b.at_
  case neg =>
    have h1' : (a.at_ == b.at_) = false := by simpa using h1
    have hs : x.same y = false := by
      have : x.at_ ≠ y.at_ := by rw [← HA.out.2.1, ← HB.out.2.1]; exact h1
      simp [AH.same, this]
    have HS := Lib.hid hs; clear hs h1
    go_enter Try.func13, Try.ntmps13
    go_wp2_with fail
    go_ret
    exact ⟨ret_bool HS.out.symm, HE0.out⟩
  have h1' : (a.at_ == b.at_) = true := by simpa using h1
  have H1 := Lib.hid h1; clear h1
  have hlen := HA.out.1; have hlen' := HB.out.1
  by_cases h2 : x.old = y.old
  case neg =>
    have hs : x.same y = false := by simp [AH.same, h2]
    have h2' : decide (x.old = y.old) = false := by simpa using h2
    have HS := Lib.hid hs; clear hs h2
    go_enter Try.func13, Try.ntmps13
    go_wp2_with fail
    refine (same04_any _ _ _ _ _ _ x.old y.old _ (HA.out.2.2.1.ext HE0.out) (HB.out.2.2.1.ext HE0.out) hlen.1 hlen'.1).mono ?_
    rintro e w1 ⟨rfl, hE⟩
    have HE := Lib.hid (HE0.out.trans hE); clear hE
    go_wp2_with fail
    go_ret
    exact ⟨ret_bool HS.out.symm, HE.out⟩
  have h2' : decide (x.old = y.old) = true := by simpa using h2
  have hs : x.same y = decide (x.new = y.new) := by
    have h3 : x.at_ = y.at_ := by rw [← HA.out.2.1, ← HB.out.2.1]; exact H1.out
    simp [AH.same, h2, h3]
  have HS := Lib.hid hs; clear hs h2
  obtain ⟨B0, B1⟩ := blks3 w a.obj b.obj
  have HB0 := Lib.hid B0; have HB1 := Lib.hid B1; clear B0 B1
  go_enter Try.func13, Try.ntmps13
  go_wp2_with fail
  refine (same04_any _ _ _ _ _ _ x.old y.old _ (HA.out.2.2.1.ext HE0.out) (HB.out.2.2.1.ext HE0.out) hlen.1 hlen'.1).mono ?_
  rintro e w1 ⟨rfl, hE⟩
  have HE := Lib.hid (HE0.out.trans hE)
  obtain ⟨c00, c01, c02⟩ := (HB0.out.ext hE).cells3
  obtain ⟨c10, c11, c12⟩ := (HB1.out.ext hE).cells3
  clear hE
  go_wp2_with fail
  refine (same04_any _ _ _ _ _ _ x.new y.new _ (HA.out.2.2.2.ext HE.out) (HB.out.2.2.2.ext HE.out) hlen.2 hlen'.2).mono ?_
  rintro e w2 ⟨rfl, hE⟩
  have HE2 := Lib.hid (HE.out.trans hE); clear hE
  go_wp2_with fail
  go_ret
  exact ⟨ret_bool (by rw [HS.out]), HE2.out⟩

set_option maxHeartbeats 400000 in
theorem invert_any (h : Hk) (w : World) :
    Calls Try.prog 14 #[h.val] w fun e w' => e = .returned (({ at_ := h.at_, oa := h.na, ol := h.nl, oc := h.nc, na := h.oa, nl := h.ol, nc := h.oc } : Hk).val) ∧ Ext w w' := by
  go_enter Try.func14, Try.ntmps14
  go_wp2
  exact bodyPost_ret (v := ({ at_ := h.at_, oa := h.na, ol := h.nl, oc := h.nc, na := h.oa, nl := h.ol, nc := h.oc } : Hk).val) (by simp [results, Try.results14, go_sem]) rfl ⟨rfl, ((Ext.refl _).alloc _).alloc _⟩

/-- A slice of hunks with their lines. -/
structure HS where
  a : Option Addr
  n : Nat
  c : Nat
  hs : List Hk
  xs : List AH

def RHS (w : World) (s : HS) : Prop := s.n ≤ Reach ∧ Hks w s.a s.n s.hs ∧ s.xs.length = s.n ∧ ∀ (k : Nat) (h : Hk) (x : AH), s.hs[k]? = some h → s.xs[k]? = some x → RH w h x
theorem RHS.ext {w w' : World} {s : HS} (r : RHS w s) (e : Ext w w') : RHS w' s := ⟨r.1, r.2.1.ext e, r.2.2.1, fun k h x h1 h2 => (r.2.2.2 k h x h1 h2).ext e⟩

/-- How many lines, as Go adds them up. -/
def gsum (l : List AH) : Int := l.foldl (fun t x => wrap64 (wrap64 (t + x.old.length) + x.new.length)) 0
theorem gsum_snoc (l : List AH) (x : AH) : gsum (l ++ [x]) = wrap64 (wrap64 (gsum l + x.old.length) + x.new.length) := by simp [gsum]
def great08 (l : List AH) : Bool := l.any (fun x => great04 x.old || great04 x.new) || (decide (12 < l.length) || decide (40 < gsum l))

/-- None of the first k is great. -/
def NoneGreat (l : List AH) (k : Nat) : Prop := (l.take k).any (fun x => great04 x.old || great04 x.new) = false
theorem NoneGreat.step {l : List AH} {k : Nat} {x : AH} (h : NoneGreat l k) (hx : l[k]? = some x) (h1 : great04 x.old = false) (h2 : great04 x.new = false) : NoneGreat l (k + 1) := by
  unfold NoneGreat at *
  rw [take_succ_of hx, List.any_append, h]
  simp [h1, h2]
theorem great08_yes {l : List AH} {k : Nat} {x : AH} (hx : l[k]? = some x) (h : great04 x.old = true ∨ great04 x.new = true) : great08 l = true := by
  have : l.any (fun x => great04 x.old || great04 x.new) = true := List.any_eq_true.2 ⟨x, List.mem_of_getElem? hx, by simpa using h⟩
  simp [great08, this]
theorem great08_end {l : List AH} {k : Nat} (h : NoneGreat l k) (hk : l.length ≤ k) : great08 l = (decide (12 < l.length) || decide (40 < gsum l)) := by
  unfold NoneGreat at h
  rw [List.take_of_length_le hk] at h
  simp [great08, h]

set_option maxHeartbeats 1000000 in
theorem great08_any (s : HS) (w : World) (hr : RHS w s) :
    Calls Try.prog 25 #[.slice s.a s.n s.c] w fun e w' => e = .returned (.bool (great08 s.xs)) ∧ Ext w w' := by
  obtain ⟨A, n, c, hs, xs⟩ := s
  obtain ⟨hn, hh, hl, hx⟩ := hr
  simp only at hn hh hl hx
  unfold Reach at hn
  have HH := Lib.hid hh; have HX := Lib.hid hx; have HL := Lib.hid hl; clear hh hx hl
  go_enter Try.func25, Try.ntmps25
  go_wp2_with fail
  go_loopw [3, 4] (fun t i wr => ∃ k : Nat, k ≤ n ∧ i = .int .i64 k ∧ t = .int .i64 (gsum (xs.take k)) ∧ NoneGreat xs k ∧ Ext w wr) (fun _ i _ => n - (intOf i).toNat)
  case atStart => exact ⟨0, Nat.zero_le _, rfl, rfl, rfl, Ext.refl _⟩
  case round =>
    obtain ⟨k, hk, rfl, rfl, hng, hE⟩ := hrel
    have HE := Lib.hid hE; have HN := Lib.hid hng; clear hE hng
    by_cases hlt : k < n
    · obtain ⟨b, off, h, rfl, hb, hx, hxs, hc0, hc1, hc2⟩ := (HH.out.ext HE.out).get hlt
      obtain ⟨x, hxx⟩ : ∃ x, xs[k]? = some x := ⟨_, List.getElem?_eq_getElem (by rw [HL.out]; exact hlt)⟩
      have hr := (HX.out k h x hx hxx).ext HE.out
      have HR := Lib.hid hr; have HK := Lib.hid hxx; clear hr hxx hx
      obtain ⟨hx1, hx2⟩ := hxs
      unfold Reach at hx1 hx2
      have hol := HR.out.2.2.1.1; have hnl := HR.out.2.2.2.1
      have HOL := Lib.hid hol; have HNL := Lib.hid hnl; clear hol hnl
      by_cases h1 : great04 x.old = true
      · go_wp2_with fail
        refine (great04_any _ _ _ x.old _ HR.out.2.2.1 HR.out.1.1).mono ?_
        rintro e w1 ⟨rfl, rfl⟩
        go_wp2_with fail
        go_ret
        exact ⟨ret_bool (great08_yes HK.out (.inl h1)).symm, HE.out⟩
      have h1' : great04 x.old = false := by simpa using h1
      clear h1
      by_cases h2 : great04 x.new = true
      · go_wp2_with fail
        refine (great04_any _ _ _ x.old _ HR.out.2.2.1 HR.out.1.1).mono ?_
        rintro e w1 ⟨rfl, rfl⟩
        go_wp2_with fail
        refine (great04_any _ _ _ x.new _ HR.out.2.2.2 HR.out.1.2).mono ?_
        rintro e w1 ⟨rfl, rfl⟩
        go_wp2_with fail
        go_ret
        exact ⟨ret_bool (great08_yes HK.out (.inr h2)).symm, HE.out⟩
      have h2' : great04 x.new = false := by simpa using h2
      clear h2
      go_wp2_with fail
      refine (great04_any _ _ _ x.old _ HR.out.2.2.1 HR.out.1.1).mono ?_
      rintro e w1 ⟨rfl, rfl⟩
      go_wp2_with fail
      refine (great04_any _ _ _ x.new _ HR.out.2.2.2 HR.out.1.2).mono ?_
      rintro e w1 ⟨rfl, rfl⟩
      go_wp2_with fail
      go_quiet (fail)
      go_wp2_with fail
      go_roundw
      case rel => exact ⟨k + 1, by omega, by go_num, by rw [take_succ_of HK.out, gsum_snoc, HOL.out, HNL.out], HN.out.step HK.out h1' h2', HE.out.drewN _⟩
      case measure => simp [intOf]; omega
    · have hkn : xs.take k = xs := List.take_of_length_le (by rw [HL.out]; omega)
      have HK := Lib.hid hkn; clear hkn
      go_wp2_with fail
      all_goals go_ret
      · exact ⟨ret_bool (by rw [HK.out, great08_end HN.out (by rw [HL.out]; omega), HL.out, Bool.eq_iff_iff]; simp only [Bool.or_eq_true, decide_eq_true_eq]; omega), HE.out⟩
      · have h12 : (12 : Int) < n := by assumption
        exact ⟨ret_bool (by rw [great08_end HN.out (by rw [HL.out]; omega), HL.out]; simp; omega), HE.out⟩

/-- A slice of slices of hunks. -/
def RHSs (w : World) (A : Option Addr) (n : Nat) (L : List HS) : Prop := n ≤ Reach ∧ L.length = n ∧ (∀ s ∈ L, RHS w s) ∧ Cells w A (L.map fun s => .slice s.a s.n s.c)
theorem RHSs.ext {w w' : World} {A : Option Addr} {n : Nat} {L : List HS} (r : RHSs w A n L) (e : Ext w w') : RHSs w' A n L := ⟨r.1, r.2.1, fun s hs => (r.2.2.1 s hs).ext e, r.2.2.2.ext e⟩
theorem RHSs.get {w : World} {A : Option Addr} {n : Nat} {L : List HS} (h : RHSs w A n L) {k : Nat} (hk : k < n) : ∃ b off s, A = some ⟨b, off, none⟩ ∧ b < w.heap.size ∧ L[k]? = some s ∧ RHS w s ∧ w.cell? ⟨b, off + k, none⟩ = some (.slice s.a s.n s.c) := by
  have hl : k < L.length := by rw [h.2.1]; exact hk
  obtain ⟨b, off, h1, h2, h3⟩ := h.2.2.2.get (k := k) (by simpa using hl)
  exact ⟨b, off, L[k], h1, h2, List.getElem?_eq_getElem hl, h.2.2.1 _ (List.getElem_mem hl), h3 k _ (by simp [hl])⟩

/-- The index of the first great one from k on. -/
def gIdx (k : Nat) : List HS → Int
  | [] => -1
  | s :: t => if great08 s.xs = true then k else gIdx (k + 1) t

set_option maxHeartbeats 1000000 in
theorem indexGreat_any (A : Option Addr) (n c : Nat) (L : List HS) (w : World) (hr : RHSs w A n L) :
    Calls Try.prog 37 #[.slice A n c, .func (.func 25) #[] #[]] w fun e w' => e = .returned (.int .i64 (gIdx 0 L)) ∧ Ext w w' := by
  have HR := Lib.hid hr
  obtain ⟨hn, -⟩ := hr
  unfold Reach at hn
  go_enter Try.func37, Try.ntmps37
  go_wp2_with fail
  go_loopw [8] (fun i wr => ∃ k : Nat, k ≤ n ∧ i = .int .i64 k ∧ gIdx 0 L = gIdx k (L.drop k) ∧ Ext w wr) (fun i _ => n - (intOf i).toNat)
  case atStart => exact ⟨0, Nat.zero_le _, rfl, rfl, Ext.refl _⟩
  case round =>
    obtain ⟨k, hk, rfl, hg, hE⟩ := hrel
    have HE := Lib.hid hE; have HG := Lib.hid hg; clear hE hg
    by_cases hlt : k < n
    · obtain ⟨b, off, s, rfl, hb, hs, hrs, hc0⟩ := (HR.out.ext HE.out).get hlt
      have HS := Lib.hid hs; have HRS := Lib.hid hrs; clear hs hrs
      by_cases h1 : great08 s.xs = true
      · go_wp2_with fail
        refine (great08_any s _ HRS.out).mono ?_
        rintro e w1 ⟨rfl, hE⟩
        have HE2 := Lib.hid (HE.out.trans hE); clear hE
        go_wp2_with fail
        go_ret
        exact ⟨ret_int (by rw [HG.out, drop_of HS.out, gIdx, if_pos h1]), HE2.out⟩
      · have h1' : great08 s.xs = false := by simpa using h1
        have H1 := Lib.hid h1; clear h1
        go_wp2_with fail
        refine (great08_any s _ HRS.out).mono ?_
        rintro e w1 ⟨rfl, hE⟩
        have HE2 := Lib.hid (HE.out.trans hE); clear hE
        go_wp2_with fail
        go_roundw
        case rel => exact ⟨k + 1, by omega, by go_num, by rw [HG.out, drop_of HS.out, gIdx, if_neg H1.out], HE2.out⟩
        case measure => simp [intOf]; omega
    · go_wp2_with fail
      go_ret
      exact ⟨ret_int (by rw [HG.out, List.drop_of_length_le (by rw [HR.out.2.1]; omega)]; rfl), HE.out⟩

theorem gIdx_neg : ∀ (L : List HS) (k : Nat), (0 ≤ gIdx k L ↔ L.any (fun s => great08 s.xs) = true)
  | [], k => by simp [gIdx]
  | s :: t, k => by
    unfold gIdx
    by_cases h : great08 s.xs = true
    · rw [if_pos h]; simp [h]
    · rw [if_neg h, gIdx_neg t (k + 1)]; simp [h]

set_option maxHeartbeats 1000000 in
theorem containsGreat_any (A : Option Addr) (n c : Nat) (L : List HS) (w : World) (hr : RHSs w A n L) :
    Calls Try.prog 24 #[.slice A n c, .func (.func 25) #[] #[]] w fun e w' => e = .returned (.bool (L.any fun s => great08 s.xs)) ∧ Ext w w' := by
  have HR := Lib.hid hr; clear hr
  go_enter Try.func24, Try.ntmps24
  go_wp2_with fail
  refine (indexGreat_any A n c L _ HR.out).mono ?_
  rintro e w1 ⟨rfl, hE⟩
  have HE := Lib.hid hE; clear hE
  go_wp2_with fail
  go_ret
  exact ⟨ret_bool (by rw [Bool.eq_iff_iff, ← gIdx_neg L 0]; simp), HE.out⟩

set_option maxHeartbeats 1000000 in
theorem great_any (B : Option Addr) (m d : Nat) (A : Option Addr) (n c : Nat) (L : List HS) (w : World) (hm : m ≤ Reach) (hr : RHSs w A n L) :
    Calls Try.prog 10 #[.slice B m d, .slice A n c] w fun e w' => e = .returned (.bool (decide (30 < m) || L.any fun s => great08 s.xs)) ∧ Ext w w' := by
  have HR := Lib.hid hr; clear hr
  unfold Reach at hm
  by_cases h : 30 < m
  · go_enter Try.func10, Try.ntmps10
    go_wp2_with fail
    go_ret
    exact ⟨ret_bool (by simp), Ext.refl _⟩
  · go_enter Try.func10, Try.ntmps10
    go_wp2_with fail
    refine (containsGreat_any A n c L _ HR.out).mono ?_
    rintro e w1 ⟨rfl, hE⟩
    have HE := Lib.hid hE; clear hE
    go_wp2_with fail
    go_ret
    exact ⟨ret_bool (by simp [h]; intro hh; omega), HE.out⟩

end Go.Proofs.Ytilogolnoifigaa

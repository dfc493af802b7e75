/- MyDefs MyFol MyStep MyTabs: parts of the proof of TopDifferences, one text behind the other. No condition. -/
import Derived.Test.YtmmcjcaccicheaaGreatDoorT03
import Derived.Test.YtmmcjcaccicheaaGreatDoorT02
/- What the functions of myers compute, in plain Lean; slices of numbers and of tables. No condition. -/
namespace Go.Proofs.YtmmcjcaccicheaaGreatDoor
open Go.RowKit

abbrev Lns := List ByteArray

/-- Both lists have the same line there. -/
def mtB (a b : Lns) (x y : Int) : Bool :=
  decide (0 ≤ x) && decide (0 ≤ y) && (match a[x.toNat]?, b[y.toNat]? with | some s, some t => decide (s = t) | _, _ => false)

def fol (a b : Lns) (k : Int) : Nat → Int → Int
  | 0, x => x
  | f + 1, x => if mtB a b x (x - k) then fol a b k f (x + 1) else x
/-- Where following the diagonal k from x on ends. -/
def folV (a b : Lns) (x k : Int) : Int := fol a b k ((a.length : Int) - x).toNat x

theorem mtB_lt {a b : Lns} {x y : Int} (h : mtB a b x y = true) : 0 ≤ x ∧ 0 ≤ y ∧ x < a.length ∧ y < b.length := by
  unfold mtB at h
  simp only [Bool.and_eq_true, decide_eq_true_eq] at h
  obtain ⟨⟨h1, h2⟩, h3⟩ := h
  split at h3
  · rename_i s t hs ht
    have := (List.getElem?_eq_some_iff.1 hs).1
    have := (List.getElem?_eq_some_iff.1 ht).1
    exact ⟨h1, h2, by omega, by omega⟩
  · cases h3
theorem mtB_at {a b : Lns} {x y : Nat} {s t : ByteArray} (hs : a[x]? = some s) (ht : b[y]? = some t) : mtB a b x y = decide (s = t) := by
  unfold mtB
  simp [hs, ht]
theorem mtB_out {a b : Lns} {x y : Int} (h : ¬ (0 ≤ x ∧ 0 ≤ y ∧ x < a.length ∧ y < b.length)) : mtB a b x y = false := by
  cases e : mtB a b x y with
  | false => rfl
  | true => exact absurd (mtB_lt e) h
theorem folV_step {a b : Lns} {x k : Int} (h : mtB a b x (x - k) = true) : folV a b x k = folV a b (x + 1) k := by
  have h1 := mtB_lt h
  unfold folV
  obtain ⟨f, hf⟩ : ∃ f, ((a.length : Int) - x).toNat = f + 1 := ⟨((a.length : Int) - x).toNat - 1, by omega⟩
  have h2 : ((a.length : Int) - (x + 1)).toNat = f := by omega
  rw [hf, h2, fol, if_pos h]
theorem folV_stop {a b : Lns} {x k : Int} (h : mtB a b x (x - k) = false) : folV a b x k = x := by
  unfold folV
  cases ((a.length : Int) - x).toNat with
  | zero => rfl
  | succ f => rw [fol, if_neg (by simp [h])]
theorem fol_ge (a b : Lns) (k : Int) : ∀ (f : Nat) (x : Int), x ≤ fol a b k f x ∧ fol a b k f x ≤ x + f
  | 0, x => by simp [fol]
  | f + 1, x => by
    unfold fol
    have := fol_ge a b k f (x + 1)
    split <;> omega
theorem folV_ge (a b : Lns) (x k : Int) : x ≤ folV a b x k ∧ (folV a b x k ≤ x ∨ folV a b x k ≤ a.length) := by
  unfold folV
  have := fol_ge a b k ((a.length : Int) - x).toNat x
  omega

/-- What begins the way on a diagonal of the next table, and the diagonal from which it comes. -/
def stepV (t : List Int) (k : Int) : Int × Int :=
  match atV t (k - 1), atV t (k + 1) with
  | none, none => (0, k + 1)
  | none, some q => (q, k + 1)
  | some p, none => (p + 1, k - 1)
  | some p, some q => if p < q then (q, k + 1) else (p + 1, k - 1)

def nextV (a b : Lns) (t : List Int) : List Int :=
  (List.range (t.length + 1)).map fun i : Nat => folV a b (stepV t (2 * (i : Int) - t.length)).1 (2 * (i : Int) - t.length)
def tabV (a b : Lns) : Nat → List Int
  | 0 => [folV a b 0 0]
  | d + 1 => nextV a b (tabV a b d)
theorem tabV_len (a b : Lns) : ∀ d, (tabV a b d).length = d + 1
  | 0 => rfl
  | d + 1 => by simp [tabV, nextV, tabV_len a b d]

/-- A slice of slices of numbers. -/
structure TB where
  a : Option Addr
  n : Nat
  c : Nat
  t : List Int
def RTB (w : World) (s : TB) : Prop := s.n ≤ Reach ∧ Ints w s.a s.n s.t
theorem RTB.ext {w w' : World} {s : TB} (r : RTB w s) (e : Ext w w') : RTB w' s := ⟨r.1, r.2.ext e⟩
def RTBs (w : World) (A : Option Addr) (n : Nat) (L : List TB) : Prop := L.length = n ∧ (∀ s ∈ L, RTB w s) ∧ Cells w A (L.map fun s => .slice s.a s.n s.c)
theorem RTBs.ext {w w' : World} {A : Option Addr} {n : Nat} {L : List TB} (r : RTBs w A n L) (e : Ext w w') : RTBs w' A n L := ⟨r.1, fun s hs => (r.2.1 s hs).ext e, r.2.2.ext e⟩
theorem RTBs.get {w : World} {A : Option Addr} {n : Nat} {L : List TB} (h : RTBs w A n L) {k : Nat} (hk : k < n) : ∃ b off s, A = some ⟨b, off, none⟩ ∧ b < w.heap.size ∧ L[k]? = some s ∧ RTB w s ∧ w.cell? ⟨b, off + k, none⟩ = some (.slice s.a s.n s.c) := by
  have hl : k < L.length := by rw [h.1]; exact hk
  obtain ⟨b, off, h1, h2, h3⟩ := h.2.2.get (k := k) (by simpa using hl)
  exact ⟨b, off, L[k], h1, h2, List.getElem?_eq_getElem hl, h.2.1 _ (List.getElem_mem hl), h3 k _ (by simp [hl])⟩
end Go.Proofs.YtmmcjcaccicheaaGreatDoor
/- Contracts: following a diagonal, on both sides; table.step. -/
namespace Go.Proofs.YtmmcjcaccicheaaGreatDoor
open Go.RowKit

set_option maxRecDepth 100000 in
set_option maxHeartbeats 2000000 in
theorem folc_any (A B : Option Addr) (n m c d : Nat) (a b : Lns) (ga gb : Nat) (x0 k : Int) (w : World) (ha : Strs w A n a) (hb : Strs w B m b)
    (hga : Blk w ga (.cells #[.slice A n c] 22 (0, 0))) (hgb : Blk w gb (.cells #[.slice B m d] 22 (0, 0)))
    (hn : n ≤ 1000) (hm : m ≤ 1000) (hx : -1000000 ≤ x0) (hx' : x0 ≤ 1000000) (hk : -1000000 ≤ k) (hk' : k ≤ 1000000) :
    Calls Tryz.prog 50 #[.int .i64 x0, .int .i64 k, .pointer (some ⟨ga, 0, none⟩), .pointer (some ⟨gb, 0, none⟩)] w fun e w' => e = .returned (.int .i64 (folV a b x0 k)) ∧ Ext w w' := by
  have HA := Lib.hid ha; have HB := Lib.hid hb; have GA := Lib.hid hga; have GB := Lib.hid hgb; clear ha hb hga hgb
  obtain rfl : a.length = n := HA.out.1
  obtain rfl : b.length = m := HB.out.1
  go_enter Tryz.func50, Tryz.ntmps50
  go_wp2_with fail
  go_loopw [0] (fun v wr => ∃ x : Int, v = .int .i64 x ∧ -1000000 ≤ x ∧ x ≤ 1000000 ∧ folV a b x k = folV a b x0 k ∧ Ext w wr) (fun v _ => ((a.length : Int) - intOf v).toNat)
  case atStart => exact ⟨x0, rfl, hx, hx', rfl, Ext.refl _⟩
  case round =>
    obtain ⟨x, rfl, hx1, hx2, hf, hE⟩ := hrel
    have HE := Lib.hid hE; have HF := Lib.hid hf; clear hE hf
    have c1 := ((GA.out.ext HE.out).cell 0); have c2 := ((GB.out.ext HE.out).cell 0)
    replace c1 : wr.cell? ⟨ga, 0, none⟩ = some (.slice A a.length c) := c1
    replace c2 : wr.cell? ⟨gb, 0, none⟩ = some (.slice B b.length d) := c2
    by_cases g1 : 0 ≤ x
    case neg =>
      have g1' : decide (0 ≤ x) = false := by simpa using g1
      have hs : folV a b x k = x := folV_stop (mtB_out (fun h => g1 h.1))
      have HS := Lib.hid hs; clear hs
      go_wp2_with fail
      go_quiet (fail)
      go_wp2_with fail
      go_ret
      exact ⟨ret_int (by rw [← HF.out, HS.out]), HE.out.drewN _⟩
    by_cases g2 : k ≤ x
    case neg =>
      have g2' : decide (k ≤ x) = false := by simpa using g2
      have hs : folV a b x k = x := folV_stop (mtB_out (fun h => g2 (by omega)))
      have HS := Lib.hid hs; clear hs
      go_wp2_with fail
      go_quiet (fail)
      go_wp2_with fail
      go_ret
      exact ⟨ret_int (by rw [← HF.out, HS.out]), HE.out.drewN _⟩
    by_cases g3 : x < a.length
    case neg =>
      have g3' : decide (x < a.length) = false := by simpa using g3
      have hs : folV a b x k = x := folV_stop (mtB_out (fun h => g3 (by omega)))
      have HS := Lib.hid hs; clear hs
      go_wp2_with fail
      go_quiet (fail)
      go_wp2_with fail
      go_ret
      exact ⟨ret_int (by rw [← HF.out, HS.out]), HE.out.drewN _⟩
    by_cases g4 : x - k < b.length
    case neg =>
      have g4' : decide (x - k < b.length) = false := by simpa using g4
      have hs : folV a b x k = x := folV_stop (mtB_out (fun h => g4 (by omega)))
      have HS := Lib.hid hs; clear hs
      go_wp2_with fail
      go_quiet (fail)
      go_wp2_with fail
      go_ret
      exact ⟨ret_int (by rw [← HF.out, HS.out]), HE.out.drewN _⟩
    obtain ⟨p, rfl⟩ : ∃ p : Nat, x = p := ⟨x.toNat, by omega⟩
    obtain ⟨q, hq⟩ : ∃ q : Nat, (p : Int) - k = q := ⟨((p : Int) - k).toNat, by omega⟩
    have hpl : p < a.length := by omega
    have hql : q < b.length := by omega
    obtain ⟨ba, oa, s, rfl, hba, hs, hs2, hc1⟩ := (HA.out.ext HE.out).get hpl
    obtain ⟨bb, ob, t, rfl, hbb, ht, ht2, hc2⟩ := (HB.out.ext HE.out).get hql
    have hmt : mtB a b p ((p : Int) - k) = decide (s = t) := by rw [hq]; exact mtB_at hs ht
    have HM := Lib.hid hmt; clear hmt hs ht
    by_cases hst : s = t
    · subst hst
      have hstep := folV_step (x := p) (k := k) (by rw [HM.out]; simp)
      have HS := Lib.hid hstep; clear hstep
      go_wp2_with fail
      go_quiet (fail)
      go_wp2_with fail
      go_roundw
      case rel => exact ⟨(p : Int) + 1, by go_num, by omega, by omega, by rw [← HS.out, HF.out], HE.out.drewN _⟩
      case measure => simp [intOf]; omega
    · have hne : (s.toList == t.toList) = false := by
        cases e : (s.toList == t.toList) with
        | false => rfl
        | true => exact absurd (toList_inj (by simpa using e)) hst
      have hstop := folV_stop (x := p) (k := k) (by rw [HM.out]; simpa using hst)
      have HS := Lib.hid hstop; clear hstop hst
      go_wp2_with fail
      go_quiet (fail)
      go_wp2_with fail
      go_ret
      exact ⟨ret_int (by rw [← HF.out, HS.out]), HE.out.drewN _⟩
end Go.Proofs.YtmmcjcaccicheaaGreatDoor
/- Contracts: table.step; the reference's follow, at, down. -/
namespace Go.Proofs.YtmmcjcaccicheaaGreatDoor
open Go.RowKit

theorem at_none {A : Option Addr} {n c : Nat} {t : List Int} {k : Int} {w : World} (h : atV t k = none) (ht : Ints w A n t) (hn : n ≤ 1000) (hk : -1000 ≤ k) (hk' : k ≤ 1000) :
    Calls Tryz.prog 24 #[.slice A n c, .int .i64 k] w fun e w' => e = .returned (.tuple #[.int .i64 0, .bool false]) ∧ w = w' := by
  have := at_any A n c t k w ht hn hk hk'
  rw [h] at this; exact this
theorem at_some {A : Option Addr} {n c : Nat} {t : List Int} {k x : Int} {w : World} (h : atV t k = some x) (ht : Ints w A n t) (hn : n ≤ 1000) (hk : -1000 ≤ k) (hk' : k ≤ 1000) :
    Calls Tryz.prog 24 #[.slice A n c, .int .i64 k] w fun e w' => e = .returned (.tuple #[.int .i64 x, .bool true]) ∧ w = w' := by
  have := at_any A n c t k w ht hn hk hk'
  rw [h] at this; exact this
/-- All numbers of a table are small. -/
def SmallT (t : List Int) : Prop := ∀ x ∈ t, -100000 ≤ x ∧ x ≤ 100000
theorem atV_small {t : List Int} (h : SmallT t) {k x : Int} (e : atV t k = some x) : -100000 ≤ x ∧ x ≤ 100000 := by
  unfold atV at e
  split at e
  · cases e
  · exact h _ (List.mem_of_getElem? e)

set_option maxRecDepth 100000 in
set_option maxHeartbeats 2000000 in
theorem step_any (A : Option Addr) (n c : Nat) (t : List Int) (k : Int) (w : World) (ht : Ints w A n t) (hn : n ≤ 1000) (hk : -500 ≤ k) (hk' : k ≤ 500) (hst : SmallT t) :
    Calls Tryz.prog 49 #[.slice A n c, .int .i64 k] w fun e w' => e = .returned (.tuple #[.int .i64 (stepV t k).1, .int .i64 (stepV t k).2]) ∧ w = w' := by
  have HT := Lib.hid ht; clear ht
  have HS := Lib.hid hst; clear hst
  obtain ⟨r1, h1⟩ : ∃ r, atV t (k - 1) = r := ⟨_, rfl⟩
  obtain ⟨r2, h2⟩ : ∃ r, atV t (k + 1) = r := ⟨_, rfl⟩
  cases r1 with
  | none =>
    cases r2 with
    | none =>
      have hV : stepV t k = (0, k + 1) := by simp only [stepV, h1, h2]
      have H1 := Lib.hid h1; have H2 := Lib.hid h2; have HV := Lib.hid hV; clear h1 h2 hV
      go_enter Tryz.func49, Tryz.ntmps49
      go_wp2_with fail
      refine (at_none H1.out HT.out hn (by omega) (by omega)).mono ?_
      rintro e w1 ⟨rfl, rfl⟩
      go_wp2_with fail
      refine (at_none H2.out HT.out hn (by omega) (by omega)).mono ?_
      rintro e w1 ⟨rfl, rfl⟩
      go_wp2_with fail
      exact bodyPost_ret (v := .tuple #[.int .i64 0, .int .i64 (k + 1)]) (by simp [results, Tryz.results49, go_sem]) rfl ⟨by rw [HV.out], rfl⟩
    | some q =>
      have hV : stepV t k = (q, k + 1) := by simp only [stepV, h1, h2]
      have H1 := Lib.hid h1; have H2 := Lib.hid h2; have HV := Lib.hid hV; clear h1 h2 hV
      go_enter Tryz.func49, Tryz.ntmps49
      go_wp2_with fail
      refine (at_none H1.out HT.out hn (by omega) (by omega)).mono ?_
      rintro e w1 ⟨rfl, rfl⟩
      go_wp2_with fail
      refine (at_some H2.out HT.out hn (by omega) (by omega)).mono ?_
      rintro e w1 ⟨rfl, rfl⟩
      go_wp2_with fail
      exact bodyPost_ret (v := .tuple #[.int .i64 q, .int .i64 (k + 1)]) (by simp [results, Tryz.results49, go_sem]) rfl ⟨by rw [HV.out], rfl⟩
  | some p =>
    have hp := atV_small HS.out h1
    cases r2 with
    | none =>
      have hV : stepV t k = (p + 1, k - 1) := by simp only [stepV, h1, h2]
      have H1 := Lib.hid h1; have H2 := Lib.hid h2; have HV := Lib.hid hV; clear h1 h2 hV
      go_enter Tryz.func49, Tryz.ntmps49
      go_wp2_with fail
      refine (at_some H1.out HT.out hn (by omega) (by omega)).mono ?_
      rintro e w1 ⟨rfl, rfl⟩
      go_wp2_with fail
      refine (at_none H2.out HT.out hn (by omega) (by omega)).mono ?_
      rintro e w1 ⟨rfl, rfl⟩
      go_wp2_with fail
      exact bodyPost_ret (v := .tuple #[.int .i64 (p + 1), .int .i64 (k - 1)]) (by simp [results, Tryz.results49, go_sem]) rfl ⟨by rw [HV.out], rfl⟩
    | some q =>
      have hq := atV_small HS.out h2
      by_cases hpq : p < q
      · have hV : stepV t k = (q, k + 1) := by simp only [stepV, h1, h2, if_pos hpq]
        have H1 := Lib.hid h1; have H2 := Lib.hid h2; have HV := Lib.hid hV; clear h1 h2 hV
        go_enter Tryz.func49, Tryz.ntmps49
        go_wp2_with fail
        refine (at_some H1.out HT.out hn (by omega) (by omega)).mono ?_
        rintro e w1 ⟨rfl, rfl⟩
        go_wp2_with fail
        refine (at_some H2.out HT.out hn (by omega) (by omega)).mono ?_
        rintro e w1 ⟨rfl, rfl⟩
        go_wp2_with fail
        exact bodyPost_ret (v := .tuple #[.int .i64 q, .int .i64 (k + 1)]) (by simp [results, Tryz.results49, go_sem]) rfl ⟨by rw [HV.out], rfl⟩
      · have hV : stepV t k = (p + 1, k - 1) := by simp only [stepV, h1, h2, if_neg hpq]
        have hpq' : decide (p < q) = false := by simpa using hpq
        have H1 := Lib.hid h1; have H2 := Lib.hid h2; have HV := Lib.hid hV; clear h1 h2 hV
        go_enter Tryz.func49, Tryz.ntmps49
        go_wp2_with fail
        refine (at_some H1.out HT.out hn (by omega) (by omega)).mono ?_
        rintro e w1 ⟨rfl, rfl⟩
        go_wp2_with fail
        refine (at_some H2.out HT.out hn (by omega) (by omega)).mono ?_
        rintro e w1 ⟨rfl, rfl⟩
        go_wp2_with fail
        exact bodyPost_ret (v := .tuple #[.int .i64 (p + 1), .int .i64 (k - 1)]) (by simp [results, Tryz.results49, go_sem]) rfl ⟨by rw [HV.out], rfl⟩
theorem step_is {A : Option Addr} {n c : Nat} {t : List Int} {k p q : Int} {w : World} (h : stepV t k = (p, q)) (ht : Ints w A n t) (hn : n ≤ 1000) (hk : -500 ≤ k) (hk' : k ≤ 500) (hst : SmallT t) :
    Calls Tryz.prog 49 #[.slice A n c, .int .i64 k] w fun e w' => e = .returned (.tuple #[.int .i64 p, .int .i64 q]) ∧ w = w' := by
  have := step_any A n c t k w ht hn hk hk' hst
  rw [h] at this; exact this
end Go.Proofs.YtmmcjcaccicheaaGreatDoor
/- The iterator over the tables: what it yields. -/
namespace Go.Proofs.YtmmcjcaccicheaaGreatDoor
open Go.RowKit

/-- The length of a slice. -/
def lenOf : Value → Nat
  | .slice _ n _ => n
  | _ => 0

/-- A table in a block of its own. -/
def TabAt (W : World) (g : Nat) (v : Value) (t : List Int) : Prop :=
  ∃ (c : Nat) (cs : Array Value), v = .slice (some ⟨g, 0, none⟩) t.length c ∧ Blk W g (.cells cs 3 (0, 0)) ∧ ∀ (j : Nat) (x : Int), t[j]? = some x → cs[j]? = some (Value.int .i64 x)
section
variable {W W' : World} {g : Nat} {v : Value} {t : List Int}
theorem TabAt.ints (h : TabAt W g v t) : Ints W (some ⟨g, 0, none⟩) t.length t := by
  obtain ⟨c, cs, _, hb, hx⟩ := h
  refine ⟨rfl, .inr ⟨g, 0, rfl, fun j u hu => ?_⟩⟩
  rw [hb.cell]
  obtain ⟨x, hx', rfl⟩ : ∃ x, t[j]? = some x ∧ Value.int .i64 x = u := by simpa using hu
  rw [Nat.zero_add]; exact hx j x hx'
theorem TabAt.lv {S : Nat → Prop} (h : TabAt W g v t) (k : Lv S W W') (hS : ¬ S g) : TabAt W' g v t := by
  obtain ⟨c, cs, h1, h2, h3⟩ := h
  exact ⟨c, cs, h1, h2.lv k hS, h3⟩
theorem TabAt.ext (h : TabAt W g v t) (e : Ext W W') : TabAt W' g v t := h.lv (Lv.of_ext (S := fun _ => False) e) id
theorem TabAt.lt (h : TabAt W g v t) : g < W.heap.size := by
  obtain ⟨c, cs, _, h2, _⟩ := h; exact h2.lt
theorem TabAt.of_own {base n : Nat} (h : W.ownsRow base 3 1 v n (t.map (Value.int .i64))) (ht : t ≠ []) : ∃ g, base ≤ g ∧ TabAt W g v t := by
  have hl : t.length = n := by simpa using h.1
  rcases h.2 with ⟨rfl, rfl⟩ | ⟨g, cap, cur, rfl, hb, hgg, hnc, _, _, htk⟩
  · exact absurd (List.eq_nil_of_length_eq_zero hl) ht
  · refine ⟨g, hb, cap, cur, by rw [hl], hgg, fun j x hx => ?_⟩
    have hj : j < t.length := (List.getElem?_eq_some_iff.1 hx).1
    have h1 : (cur.toList.take (n * 1))[j]? = some (.int .i64 x) := by rw [htk]; simp [hx]
    rw [List.getElem?_take_of_lt (by omega)] at h1
    simpa using h1
end

/-- The tables up to the last one. -/
def tabsV (a b : Lns) (n : Nat) : List (List Int) := (List.range n).map (tabV a b)
theorem tabsV_succ (a b : Lns) (d : Nat) : tabsV a b (d + 1) = tabsV a b d ++ [tabV a b d] := by simp [tabsV, List.range_succ]
theorem tabsV_pre (a b : Lns) {d D : Nat} (h : d ≤ D) : tabsV a b d ++ [tabV a b d] <+: tabsV a b (D + 1) := by
  rw [← tabsV_succ]
  refine ⟨(List.range' (d + 1) (D - d)).map (tabV a b), ?_⟩
  rw [tabsV, tabsV, ← List.map_append]
  congr 1
  rw [List.range_eq_range', List.range_eq_range']
  have := List.range'_append_1 (s := 0) (m := d + 1) (n := D - d)
  rw [Nat.zero_add] at this
  rw [this]
  congr 1; omega

theorem stepV_bound {t : List Int} {hi : Int} (h : ∀ x ∈ t, 0 ≤ x ∧ x ≤ hi) (hh : 0 ≤ hi) (k : Int) : 0 ≤ (stepV t k).1 ∧ (stepV t k).1 ≤ hi + 1 := by
  have g : ∀ {k x}, atV t k = some x → 0 ≤ x ∧ x ≤ hi := fun {k x} e => by
    unfold atV at e
    split at e
    · cases e
    · exact h _ (List.mem_of_getElem? e)
  unfold stepV
  split
  · simp; omega
  · rename_i q _ e; have := g e; simp; omega
  · rename_i p e _; have := g e; simp; omega
  · rename_i p q e1 e2; have := g e1; have := g e2; split <;> simp <;> omega
theorem tabV_bound (a b : Lns) : ∀ d, ∀ x ∈ tabV a b d, 0 ≤ x ∧ x ≤ (a.length : Int) + d
  | 0, x, hx => by
    have := folV_ge a b 0 0
    simp only [tabV, List.mem_singleton] at hx
    subst hx; omega
  | d + 1, x, hx => by
    simp only [tabV, nextV, List.mem_map] at hx
    obtain ⟨i, _, rfl⟩ := hx
    have h1 := stepV_bound (hi := (a.length : Int) + d) (tabV_bound a b d) (by omega) (2 * (i : Int) - (tabV a b d).length)
    have h2 := folV_ge a b (stepV (tabV a b d) (2 * (i : Int) - (tabV a b d).length)).1 (2 * (i : Int) - (tabV a b d).length)
    constructor
    · omega
    · push_cast; omega
theorem tabV_small (a b : Lns) (d : Nat) (h1 : a.length ≤ 1000) (h2 : d ≤ 1000) : SmallT (tabV a b d) := fun x hx => by
  have := tabV_bound a b d x hx; constructor <;> omega

theorem infoI : (Tryz.prog.info? 3).map (fun i => (i.zero, i.size, i.bytes)) = some (some (.int .i64 0), 1, 8) := by kernel_rfl
theorem underT : Tryz.prog.underlying 58 = some (.slice 3) := by kernel_rfl

/-- The first i numbers of the next table. -/
def nextP (a b : Lns) (t : List Int) (i : Nat) : List Int := (List.range i).map fun i : Nat => folV a b (stepV t (2 * (i : Int) - t.length)).1 (2 * (i : Int) - t.length)
theorem nextP_all (a b : Lns) (t : List Int) : nextP a b t (t.length + 1) = nextV a b t := rfl
theorem nextP_succ (a b : Lns) (t : List Int) (i : Nat) : nextP a b t (i + 1) = nextP a b t i ++ [folV a b (stepV t (2 * (i : Int) - t.length)).1 (2 * (i : Int) - t.length)] := by simp [nextP, List.range_succ]

/-- What the iterator knows: the two lists and the five boxes. -/
structure Kn (A B : Option Addr) (c d : Nat) (a b : Lns) (ga gb gf ga' gb' : Nat) (W : World) : Prop where
  sa : Strs W A a.length a
  sb : Strs W B b.length b
  ba : Blk W ga (.cells #[.slice A a.length c] 22 (0, 0))
  bb : Blk W gb (.cells #[.slice B b.length d] 22 (0, 0))
  bf : Blk W gf (.cells #[.func (.func 50) #[] #[.pointer (some ⟨ga', 0, none⟩), .pointer (some ⟨gb', 0, none⟩)]] 56 (0, 0))
  ba' : Blk W ga' (.cells #[.slice A a.length c] 22 (0, 0))
  bb' : Blk W gb' (.cells #[.slice B b.length d] 22 (0, 0))

def EncT (t : List Int) (vs : Array Value) (S : Nat → Prop) (W : World) : Prop := ∃ g v, vs = #[v] ∧ TabAt W g v t ∧ ¬ S g
def PreT (X : Nat → Prop) (w0 : World) (S : Nat → Prop) (W : World) : Prop := Lv X w0 W ∧ ∀ g, g < w0.heap.size → S g → X g

def OutT (J : List (List Int) → (Nat → Prop) → World → Prop) (a b : Lns) (d : Nat) (X : Nat → Prop) (w0 : World) (v : Value) (wr : World) : Prop :=
  ∃ S' g, TabAt wr g v (tabV a b d) ∧ ¬ S' g ∧ J (tabsV a b d) S' wr ∧ PreT X w0 S' wr ∧ ∀ h, S' h → h < wr.heap.size

set_option maxRecDepth 100000 in
set_option maxHeartbeats 4000000 in
theorem tables_iter (A B : Option Addr) (c cd : Nat) (a b : Lns) (ga gb gf ga' gb' : Nat) (X : Nat → Prop) (w0 : World) (hKn : ∀ W, Lv X w0 W → Kn A B c cd a b ga gb gf ga' gb' W)
    (hn : a.length ≤ 130) (hm : b.length ≤ 130) (D : Nat) (hD : D ≤ 260) (hend : atV (tabV a b D) ((a.length : Int) - b.length) = some (a.length : Int))
    (hgo : ∀ d, d < D → atV (tabV a b d) ((a.length : Int) - b.length) ≠ some (a.length : Int)) :
    Iter Tryz.prog 48 #[.pointer (some ⟨gf, 0, none⟩), .pointer (some ⟨ga, 0, none⟩), .pointer (some ⟨gb, 0, none⟩)] EncT (tabsV a b (D + 1)) (fun _ => False) (PreT X w0) := by
  intro l J Jx S W hP hSz hJ hJx hY h0
  have HP := Lib.hid hP; have HJ := Lib.hid hJ; have HY := Lib.hid hY; have H0 := Lib.hid h0; have HZ := Lib.hid hSz; have HK := Lib.hid hKn; have HEND := Lib.hid hend; have HGO := Lib.hid hgo; clear hP hSz hJ hJx hY h0 hKn hend hgo
  refine callsIn_wide.2 ?_
  simp only [List.append_toArray, List.cons_append, List.nil_append]
  have K := Lib.hid (HK.out _ HP.out.1)
  have c1 := K.out.bf.cell 0
  replace c1 : W.cell? ⟨gf, 0, none⟩ = some (.func (.func 50) #[] #[.pointer (some ⟨ga', 0, none⟩), .pointer (some ⟨gb', 0, none⟩)]) := c1
  go_enter Tryz.func48, Tryz.ntmps48
  go_wp2_with fail
  refine (folc_any A B _ _ c cd a b ga' gb' 0 0 _ K.out.sa K.out.sb K.out.ba' K.out.bb' (by omega) (by omega) (by omega) (by omega) (by omega) (by omega)).mono ?_
  rintro e w1 ⟨rfl, hE⟩
  have HE := Lib.hid hE
  clear hE c1
  go_wp2_with fail
  go_loopw [5] (fun v wr => ∃ d, d ≤ D ∧ OutT J a b d X w0 v wr) (fun v _ => D + 1 - lenOf v)
  case atStart =>
    have hE2 := (Ext.refl W).trans (HE.out.alloc (.cells #[.int .i64 (folV a b 0 0)] 3))
    refine ⟨0, Nat.zero_le _, S, w1.heap.size, ⟨1, _, rfl, Blk.new w1 _ rfl, ?_⟩, fun h => ?_, HJ.out _ _ _ _ H0.out (Lv.of_ext hE2), ⟨HP.out.1.ext hE2, HP.out.2⟩, fun h hh => ?_⟩
    · intro j x hx
      change [folV a b 0 0][j]? = some x at hx
      match j with
      | 0 => simp at hx; subst hx; rfl
      | j + 1 => simp at hx
    · have := HZ.out _ h; have := HE.out.size; omega
    · have := HZ.out _ hh; have := hE2.size; omega
  case round =>
    obtain ⟨d, hd, hO⟩ := hrel
    obtain ⟨S', g, hT, hng, hJ1, hP1, hz1⟩ := hO
    have HT := Lib.hid hT; have HNG := Lib.hid hng; have HJ1 := Lib.hid hJ1; have HP1 := Lib.hid hP1; have HZ1 := Lib.hid hz1; clear hT hng hJ1 hP1 hz1
    obtain ⟨cc, cs, hv, -, -⟩ := HT.out
    subst hv
    have hR := HY.out (tabsV a b d) (tabV a b d) #[.slice (some ⟨g, 0, none⟩) (tabV a b d).length cc] S' wr HJ1.out (tabsV_pre a b hd) ⟨g, _, rfl, HT.out, HNG.out⟩
    have HR := Lib.hid hR; clear hR
    refine wp_block (wp_seq (wp_seq (wp_of_In ?_)))
    obtain ⟨fn, tmps, assign, body, hy, hRR⟩ := HR.out
    gi_wp2
    refine ⟨rfl, hRR.mono ?_⟩
    rintro e W2 ⟨S2, hv2, hs2, hz2, (⟨rfl, hJ2⟩ | ⟨rfl, hJx2⟩)⟩
    case inr =>
      clear hy hRR
      have HX := Lib.hid hJx2; clear hv2 hs2 hz2 hJx2
      gi_wp2
      go_wp2_with fail
      refine bodyPost_ret (results_none rfl _ _ _) rfl ?_
      exact ⟨⟨_, rfl⟩, .inr ⟨_, _, tabsV_pre a b hd, HX.out⟩⟩
    have hg2 : ¬ S2 g := fun h => by
      rcases hs2 g h with h | h
      · exact HNG.out h
      · exact absurd HT.out.lt (by omega)
    have hP2 : PreT X w0 S2 W2 := ⟨HP1.out.1.trans hv2 (fun h hh hs => HP1.out.2 h hh hs), fun h hh hs => by
      rcases hs2 h hs with hs | hs
      · exact HP1.out.2 h hh hs
      · have := HP1.out.1.size; omega⟩
    have HT2 := Lib.hid (HT.out.lv hv2 HNG.out)
    have HNG2 := Lib.hid hg2; have HP2 := Lib.hid hP2; have HZ2 := Lib.hid hz2; have HJ2 := Lib.hid hJ2
    clear hy hRR hv2 hs2 hz2 hJ2 hg2 hP2 HR HT HNG HJ1 HP1 HZ1
    have K2 := Lib.hid (HK.out _ HP2.out.1)
    have ca := K2.out.ba.cell 0; have cb := K2.out.bb.cell 0
    replace ca : W2.cell? ⟨ga, 0, none⟩ = some (.slice A a.length c) := ca
    replace cb : W2.cell? ⟨gb, 0, none⟩ = some (.slice B b.length cd) := cb
    have hlen := tabV_len a b d
    have HL := Lib.hid hlen; clear hlen
    have hint : Ints W2 (some ⟨g, 0, none⟩) (tabV a b d).length (tabV a b d) := HT2.out.ints
    have HI := Lib.hid hint; clear hint
    rw [HL.out]
    gi_wp2
    by_cases hdD : d = D
    · subst hdD
      go_wp2_with fail
      refine (at_some HEND.out (HL.out ▸ HI.out) (by omega) (by omega) (by omega)).mono ?_
      rintro e W3 ⟨rfl, rfl⟩
      go_wp2_with fail
      refine bodyPost_ret (results_none rfl _ _ _) rfl ?_
      exact ⟨⟨_, rfl⟩, .inl ⟨S2, by rw [tabsV_succ]; exact HJ2.out⟩⟩
    have hdl : d < D := by omega
    have HTS := Lib.hid (tabV_small a b d (by omega) (by omega))
    rcases hr : atV (tabV a b d) ((a.length : Int) - b.length) with _ | x
    case' none =>
      have HR := Lib.hid hr; clear hr
      go_wp2_with fail
      refine (at_none HR.out (HL.out ▸ HI.out) (by omega) (by omega) (by omega)).mono ?_
      rintro e W3 ⟨rfl, rfl⟩
      go_wp2_with fail
    case' some =>
      have hx : x ≠ (a.length : Int) := fun e => HGO.out d hdl (by rw [hr, e])
      have hx' : (x == (a.length : Int)) = false := by simpa using hx
      have HR := Lib.hid hr; clear hr hx
      go_wp2_with fail
      refine (at_some HR.out (HL.out ▸ HI.out) (by omega) (by omega) (by omega)).mono ?_
      rintro e W3 ⟨rfl, rfl⟩
      go_wp2_with fail
      clear hx'
    all_goals
      clear hdD HR
      obtain ⟨W4, hW4⟩ : ∃ W4 : World, W4 = W2.alloc (.cells #[] 3) := ⟨_, rfl⟩
      go_loopw [9, 10] (fun v9 v10 wr => ∃ i : Nat, i ≤ d + 2 ∧ v10 = .int .i64 (2 * (i : Int) - (d + 1 : Nat)) ∧ wr.ownsRow W2.heap.size 3 1 v9 i ((nextP a b (tabV a b d) i).map (Value.int .i64)) ∧ Ext W2 wr) (fun _ v10 _ => ((d : Int) + 2 - intOf v10).toNat)
      case atStart => exact ⟨0, by omega, by go_num, ⟨rfl, .inr ⟨W2.heap.size, 0, #[], rfl, Nat.le_refl _, heap_alloc_new W2 _, Nat.le_refl _, by simp [maxLen], rfl, rfl⟩⟩, (Ext.refl W2).alloc _⟩
      case round =>
        obtain ⟨i, hi, rfl, ho, hE⟩ := hrel
        have HO := Lib.hid ho; have HE3 := Lib.hid hE; clear ho hE ca cb
        by_cases hlt : i < d + 2
        · have hk1 : 2 * (i : Int) - (d + 1 : Nat) ≤ (d + 1 : Nat) := by omega
          obtain ⟨s1, s2, hs⟩ : ∃ s1 s2, stepV (tabV a b d) (2 * (i : Int) - ((d : Int) + 1)) = (s1, s2) := ⟨_, _, rfl⟩
          have hsb := stepV_bound (hi := (a.length : Int) + d) (tabV_bound a b d) (by omega) (2 * (i : Int) - ((d : Int) + 1))
          rw [hs] at hsb
          obtain ⟨hs1, hs2⟩ := hsb
          simp only at hs1 hs2
          have hP := nextP_succ a b (tabV a b d) i
          rw [HL.out] at hP
          have hcast : ((d + 1 : Nat) : Int) = (d : Int) + 1 := by omega
          rw [hcast, hs] at hP
          simp only at hP
          have HSt := Lib.hid hs; have HPS := Lib.hid hP; clear hs hP hcast
          have hbf := (K2.out.bf.ext HE3.out).cell 0
          replace hbf : wr.cell? ⟨gf, 0, none⟩ = some (.func (.func 50) #[] #[.pointer (some ⟨ga', 0, none⟩), .pointer (some ⟨gb', 0, none⟩)]) := hbf
          obtain ⟨inf, i1, i2, i3, i4⟩ := info_of infoI
          have I1 := Lib.hid i1; have I2 := Lib.hid i2; have I3 := Lib.hid i3; have I4 := Lib.hid i4; clear i1 i2 i3 i4
          go_wp2_with fail
          refine (step_is HSt.out (HL.out ▸ HI.out.ext HE3.out) (by omega) (by omega) (by omega) HTS.out).mono ?_
          rintro e W5 ⟨rfl, rfl⟩
          go_wp2_with fail
          refine (folc_any A B _ _ c cd a b ga' gb' s1 _ _ (K2.out.sa.ext HE3.out) (K2.out.sb.ext HE3.out) (K2.out.ba'.ext HE3.out) (K2.out.bb'.ext HE3.out) (by omega) (by omega) (by omega) (by omega) (by omega) (by omega)).mono ?_
          rintro e W5 ⟨rfl, hE5⟩
          have HE5 := Lib.hid hE5; clear hE5 hbf
          go_wp2_with (at_builtin; refine wpList_append_size rfl (.tmp 53) (.tmp 58) 58 rfl W2.heap.size 3 inf _ 1 8 underT I1.out I2.out I3.out I4.out rfl (by decide) _ i ((nextP a b (tabV a b d) i).map (Value.int .i64)) (some ⟨W5.heap.size, 0, none⟩) 1 1 [.int .i64 (folV a b s1 (2 * (i : Int) - ((d : Int) + 1)))] rfl (by simp [Act.eval]) rfl (by simp [Value.oneCell']) (by simp only [maxLen]; omega) (by omega) (own_stab3 (HE5.out.alloc _) HO.out) (Cells.new W5 _ [_] rfl) (by have := HE3.out.size; have := HE5.out.size; simp; omega) ?_; intro v2 w2 hown2 hg2)
          go_roundw
          case rel =>
            refine ⟨i + 1, by omega, by congr 1; omega, ?_, ?_⟩
            · rw [HPS.out, List.map_append]; exact hown2
            · exact ((HE3.out.trans HE5.out).alloc _).own3 (own_stab3 (HE5.out.alloc _) HO.out) hg2
          case measure => simp [intOf]; omega
        · obtain rfl : i = d + 2 := by omega
          have hge : ¬ (2 * ((d + 2 : Nat) : Int) - (d + 1 : Nat) ≤ (d + 1 : Nat)) := by omega
          go_wp2_with fail
          have hN : nextP a b (tabV a b d) (d + 2) = tabV a b (d + 1) := by
            have := nextP_all a b (tabV a b d)
            rw [HL.out] at this
            exact this
          have ho := HO.out
          rw [hN] at ho
          obtain ⟨g', hg', hT'⟩ := TabAt.of_own ho (fun h => by have := tabV_len a b (d + 1); rw [h] at this; simp at this)
          go_roundw
          case rel =>
            refine ⟨d + 1, by omega, S2, g', hT', fun h => ?_, ?_, ⟨HP2.out.1.ext HE3.out, HP2.out.2⟩, fun h hh => ?_⟩
            · have := HZ2.out _ h; omega
            · rw [tabsV_succ]; exact HJ.out _ _ _ _ HJ2.out (Lv.of_ext HE3.out)
            · have := HZ2.out _ hh; have := HE3.out.size; omega
          case measure =>
            obtain ⟨cc', cs', hv', -, -⟩ := hT'
            rw [hv']
            simp only [lenOf, tabV_len]
            omega
end Go.Proofs.YtmmcjcaccicheaaGreatDoor

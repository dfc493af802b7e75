/- Contracts: the reference's SamePairs, SameChanges. -/
import Derived.Test.YtbjniaihkllmdaaTrSame
namespace Go.Proofs.Ytbjniaihkllmdaa
open Go.RowKit
set_option maxRecDepth 100000
set_option maxHeartbeats 8000000

theorem rpairs_any {p q : List Pr} {A : Option Addr} {c : Nat} {B : Option Addr} {d : Nat} {w : World} (hp : Prs w A p.length p) (hq : Prs w B q.length q) (hl : p.length ≤ 1000) (hl2 : q.length ≤ 1000) :
    Calls Try.prog 24 #[.slice A p.length c, .slice B q.length d] w fun e w' => e = .returned (.bool (decide (p = q))) ∧ Ext w w' := by
  obtain ⟨N, hN⟩ : ∃ N, p.length = N := ⟨_, rfl⟩
  obtain ⟨M, hM⟩ : ∃ M, q.length = M := ⟨_, rfl⟩
  rw [hN] at hp hl; rw [hM] at hq hl2
  rw [hN, hM]
  have HP := Lib.hid hp; have HQ := Lib.hid hq; have HN := Lib.hid hN; have HM := Lib.hid hM; clear hp hq hN hM
  by_cases hnm : N = M
  · obtain rfl := hnm
    go_enter Try.func24, Try.ntmps24
    go_wp2_with fail
    go_loopw [5] (fun vi wr => ∃ i : Nat, vi = .int .i64 i ∧ i ≤ N ∧ Ext w wr ∧ p.take i = q.take i) (fun vi _ => N - (intOf vi).toNat)
    case atStart => exact ⟨0, rfl, Nat.zero_le _, Ext.refl _, rfl⟩
    case round =>
      obtain ⟨i, rfl, hi, hE, ht⟩ := hrel
      have HE := Lib.hid hE; have HT := Lib.hid ht; clear hE ht
      by_cases hiN : i = N
      · have hnl : ¬ ((i : Int) < (N : Int)) := by omega
        go_wp2_with fail
        go_ret
        refine ⟨ret_bool ?_, HE.out⟩
        have h := HT.out
        rw [List.take_of_length_le (by rw [HN.out]; omega), List.take_of_length_le (by rw [HM.out]; omega)] at h
        simp [h]
      · have hlt : ((i : Int) < (N : Int)) := by omega
        obtain ⟨b, off, x, rfl, hb, hx, -, c0, c1⟩ := (HP.out.ext HE.out).get (j := i) (by omega)
        obtain ⟨b', off', y, rfl, hb', hy, -, d0, d1⟩ := (HQ.out.ext HE.out).get (j := i) (by omega)
        have HX := Lib.hid hx; have HY := Lib.hid hy; clear hx hy
        obtain ⟨xk, xv⟩ := x
        obtain ⟨yk, yv⟩ := y
        dsimp only at c0 c1 d0 d1
        by_cases hxy : xk = yk ∧ xv = yv
        · obtain ⟨rfl, rfl⟩ := hxy
          go_wp2_with fail
          go_quiet (fail)
          have hE1 : Ext w (wr.drewN nq) := HE.out.drewN nq
          generalize wr.drewN nq = w1 at hE1 ⊢
          have HE1 := Lib.hid hE1; clear hE1 c0 c1 d0 d1
          go_wp2_with fail
          go_roundw
          case rel => exact ⟨i + 1, by go_num, by omega, HE1.out, by rw [List.take_add_one, List.take_add_one, HT.out, HX.out, HY.out]⟩
          case measure => simp [intOf]; omega
        · have hne : p ≠ q := fun h => by
            have h1 := HX.out; rw [h, HY.out] at h1
            exact hxy (by simpa [eq_comm] using h1)
          have HNE := Lib.hid hne; clear hne
          by_cases hk : xk = yk
          · obtain rfl := hk
            have hv : xv ≠ yv := fun h => hxy ⟨rfl, h⟩
            have q1 := ne_list hv
            clear hxy
            go_wp2_with fail
            go_quiet (fail)
            have hE1 : Ext w (wr.drewN nq) := HE.out.drewN nq
            generalize wr.drewN nq = w1 at hE1 ⊢
            have HE1 := Lib.hid hE1; clear hE1 c0 c1 d0 d1
            go_wp2_with fail
            go_ret
            exact ⟨ret_bool (by simp [HNE.out]), HE1.out⟩
          · have q1 := ne_list hk
            clear hxy
            go_wp2_with fail
            go_quiet (fail)
            have hE1 : Ext w (wr.drewN nq) := HE.out.drewN nq
            generalize wr.drewN nq = w1 at hE1 ⊢
            have HE1 := Lib.hid hE1; clear hE1 c0 c1 d0 d1
            go_wp2_with fail
            go_ret
            exact ⟨ret_bool (by simp [HNE.out]), HE1.out⟩
  · have q1 : ((N : Int) != (M : Int)) = true := by simp; omega
    have hne : p ≠ q := fun h => hnm (by rw [← HN.out, ← HM.out, h])
    have HNE := Lib.hid hne; clear hne hnm
    go_enter Try.func24, Try.ntmps24
    go_wp2_with fail
    go_ret
    exact ⟨ret_bool (by simp [HNE.out]), Ext.refl _⟩

/-- Changes in memory. -/
def Chgs (w : World) (A : Option Addr) (n : Nat) (l : List Chg) : Prop := l.length = n ∧ Cells w A (l.flatMap Chg.cells)
theorem Chgs.ext {w w' : World} {A : Option Addr} {n : Nat} {l : List Chg} (h : Chgs w A n l) (e : Ext w w') : Chgs w' A n l := ⟨h.1, h.2.ext e⟩
theorem Chgs.get {w : World} {A : Option Addr} {n : Nat} {l : List Chg} (h : Chgs w A n l) {j : Nat} (hj : j < n) : ∃ b off x, A = some ⟨b, off, none⟩ ∧ b < w.heap.size ∧ l[j]? = some x ∧
    w.cell? ⟨b, off + j * 5, none⟩ = some (.string x.k) ∧ w.cell? ⟨b, off + j * 5 + 1, none⟩ = some (.bool x.o.isSome) ∧ w.cell? ⟨b, off + j * 5 + 2, none⟩ = some (.bool x.n.isSome) ∧
    w.cell? ⟨b, off + j * 5 + 3, none⟩ = some (.string (x.o.getD nothing)) ∧ w.cell? ⟨b, off + j * 5 + 4, none⟩ = some (.string (x.n.getD nothing)) := by
  have hl : j < l.length := by rw [h.1]; exact hj
  have hlf := flat_len chg_len l
  obtain ⟨b, off, h1, h2, h3⟩ := h.2.get (k := j * 5) (by rw [hlf]; omega)
  have hx : l[j]? = some l[j] := List.getElem?_eq_getElem hl
  have g := fun i hi => flat_get chg_len l j i _ hx hi
  refine ⟨b, off, l[j], h1, h2, hx, ?_, ?_, ?_, ?_, ?_⟩
  · have := h3 (j * 5 + 0) (.string l[j].k) (by rw [g 0 (by omega)]; rfl); simpa using this
  · have := h3 (j * 5 + 1) (.bool l[j].o.isSome) (by rw [g 1 (by omega)]; rfl); simpa [Nat.add_assoc] using this
  · have := h3 (j * 5 + 2) (.bool l[j].n.isSome) (by rw [g 2 (by omega)]; rfl); simpa [Nat.add_assoc] using this
  · have := h3 (j * 5 + 3) (.string (l[j].o.getD nothing)) (by rw [g 3 (by omega)]; rfl); simpa [Nat.add_assoc] using this
  · have := h3 (j * 5 + 4) (.string (l[j].n.getD nothing)) (by rw [g 4 (by omega)]; rfl); simpa [Nat.add_assoc] using this
theorem ownC_chgs {w : World} {base n : Nat} {v : Value} {l : List Chg} (h : w.ownsRow base 54 5 v n (l.flatMap Chg.cells)) : ∃ A c, v = .slice A n c ∧ n ≤ c ∧ Chgs w A n l := by
  have hl : l.length = n := by have := h.1; rw [flat_len chg_len] at this; omega
  have hc := fun g hg => h.cells (g := g) hg
  rcases h.2 with ⟨rfl, rfl⟩ | ⟨g, cap, cur, rfl, hb, hgg, hnc, _⟩
  · obtain rfl : l = [] := List.eq_nil_of_length_eq_zero hl
    exact ⟨none, 0, rfl, Nat.le_refl _, rfl, Cells.nil _ _⟩
  · exact ⟨_, _, rfl, hnc, hl, Cells.of_add _ (hc g rfl)⟩
-- CHANGES
theorem chg_eq : ∀ {x y : Chg}, x.k = y.k → x.o.isSome = y.o.isSome → x.n.isSome = y.n.isSome → x.o.getD nothing = y.o.getD nothing → x.n.getD nothing = y.n.getD nothing → x = y
  | ⟨k, o, n⟩, ⟨k', o', n'⟩, h1, h2, h3, h4, h5 => by
    dsimp only at h1 h2 h3 h4 h5
    subst h1
    have e1 : o = o' := by cases o <;> cases o' <;> simp_all
    have e2 : n = n' := by cases n <;> cases n' <;> simp_all
    rw [e1, e2]
theorem ne_bool {a b : Bool} (h : a ≠ b) : (a == b) = false := by cases a <;> cases b <;> simp_all
theorem rchanges_any {p q : List Chg} {A : Option Addr} {c : Nat} {B : Option Addr} {d : Nat} {w : World} (hp : Chgs w A p.length p) (hq : Chgs w B q.length q) (hl : p.length ≤ 1000) (hl2 : q.length ≤ 1000) :
    Calls Try.prog 29 #[.slice A p.length c, .slice B q.length d] w fun e w' => e = .returned (.bool (decide (p = q))) ∧ Ext w w' := by
  obtain ⟨N, hN⟩ : ∃ N, p.length = N := ⟨_, rfl⟩
  obtain ⟨M, hM⟩ : ∃ M, q.length = M := ⟨_, rfl⟩
  rw [hN] at hp hl; rw [hM] at hq hl2
  rw [hN, hM]
  have HP := Lib.hid hp; have HQ := Lib.hid hq; have HN := Lib.hid hN; have HM := Lib.hid hM; clear hp hq hN hM
  by_cases hnm : N = M
  · obtain rfl := hnm
    go_enter Try.func29, Try.ntmps29
    go_wp2_with fail
    go_loopw [5] (fun vi wr => ∃ i : Nat, vi = .int .i64 i ∧ i ≤ N ∧ Ext w wr ∧ p.take i = q.take i) (fun vi _ => N - (intOf vi).toNat)
    case atStart => exact ⟨0, rfl, Nat.zero_le _, Ext.refl _, rfl⟩
    case round =>
      obtain ⟨i, rfl, hi, hE, ht⟩ := hrel
      have HE := Lib.hid hE; have HT := Lib.hid ht; clear hE ht
      by_cases hiN : i = N
      · have hnl : ¬ ((i : Int) < (N : Int)) := by omega
        go_wp2_with fail
        go_ret
        refine ⟨ret_bool ?_, HE.out⟩
        have h := HT.out
        rw [List.take_of_length_le (by rw [HN.out]; omega), List.take_of_length_le (by rw [HM.out]; omega)] at h
        simp [h]
      · have hlt : ((i : Int) < (N : Int)) := by omega
        obtain ⟨b, off, x, rfl, hb, hx, c0, c1, c2, c3, c4⟩ := (HP.out.ext HE.out).get (j := i) (by omega)
        obtain ⟨b', off', y, rfl, hb', hy, d0, d1, d2, d3, d4⟩ := (HQ.out.ext HE.out).get (j := i) (by omega)
        have hne0 : x ≠ y → p ≠ q := fun h1 h => by
          rw [h, hy] at hx
          exact h1 (Option.some.inj hx).symm
        have HX := Lib.hid hx; have HY := Lib.hid hy; clear hx hy
        by_cases h0 : x.k = y.k
        case neg =>
          have hne : p ≠ q := hne0 (fun h => h0 (congrArg Chg.k h))
          have HNE := Lib.hid hne; clear hne
          have q1 := ne_list h0
          clear hne0 h0
          go_wp2_with fail
          go_quiet (fail)
          have hE1 : Ext w (wr.drewN nq) := HE.out.drewN nq
          generalize wr.drewN nq = w1 at hE1 ⊢
          have HE1 := Lib.hid hE1; clear hE1 c0 c1 c2 c3 c4 d0 d1 d2 d3 d4
          go_wp2_with fail
          go_ret
          exact ⟨ret_bool (by simp [HNE.out]), HE1.out⟩
        rw [← h0] at d0
        by_cases h1 : x.o.isSome = y.o.isSome
        case neg =>
          have hne : p ≠ q := hne0 (fun h => h1 (congrArg (fun c => c.o.isSome) h))
          have HNE := Lib.hid hne; clear hne
          have q1 := ne_bool h1
          clear hne0 h0 h1
          go_wp2_with fail
          go_quiet (fail)
          have hE1 : Ext w (wr.drewN nq) := HE.out.drewN nq
          generalize wr.drewN nq = w1 at hE1 ⊢
          have HE1 := Lib.hid hE1; clear hE1 c0 c1 c2 c3 c4 d0 d1 d2 d3 d4
          go_wp2_with fail
          go_ret
          exact ⟨ret_bool (by simp [HNE.out]), HE1.out⟩
        rw [← h1] at d1
        by_cases h2 : x.n.isSome = y.n.isSome
        case neg =>
          have hne : p ≠ q := hne0 (fun h => h2 (congrArg (fun c => c.n.isSome) h))
          have HNE := Lib.hid hne; clear hne
          have q1 := ne_bool h2
          clear hne0 h0 h1 h2
          go_wp2_with fail
          go_quiet (fail)
          have hE1 : Ext w (wr.drewN nq) := HE.out.drewN nq
          generalize wr.drewN nq = w1 at hE1 ⊢
          have HE1 := Lib.hid hE1; clear hE1 c0 c1 c2 c3 c4 d0 d1 d2 d3 d4
          go_wp2_with fail
          go_ret
          exact ⟨ret_bool (by simp [HNE.out]), HE1.out⟩
        rw [← h2] at d2
        by_cases h3 : x.o.getD nothing = y.o.getD nothing
        case neg =>
          have hne : p ≠ q := hne0 (fun h => h3 (congrArg (fun c => c.o.getD nothing) h))
          have HNE := Lib.hid hne; clear hne
          have q1 := ne_list h3
          clear hne0 h0 h1 h2 h3
          go_wp2_with fail
          go_quiet (fail)
          have hE1 : Ext w (wr.drewN nq) := HE.out.drewN nq
          generalize wr.drewN nq = w1 at hE1 ⊢
          have HE1 := Lib.hid hE1; clear hE1 c0 c1 c2 c3 c4 d0 d1 d2 d3 d4
          go_wp2_with fail
          go_ret
          exact ⟨ret_bool (by simp [HNE.out]), HE1.out⟩
        rw [← h3] at d3
        by_cases h4 : x.n.getD nothing = y.n.getD nothing
        case neg =>
          have hne : p ≠ q := hne0 (fun h => h4 (congrArg (fun c => c.n.getD nothing) h))
          have HNE := Lib.hid hne; clear hne
          have q1 := ne_list h4
          clear hne0 h0 h1 h2 h3 h4
          go_wp2_with fail
          go_quiet (fail)
          have hE1 : Ext w (wr.drewN nq) := HE.out.drewN nq
          generalize wr.drewN nq = w1 at hE1 ⊢
          have HE1 := Lib.hid hE1; clear hE1 c0 c1 c2 c3 c4 d0 d1 d2 d3 d4
          go_wp2_with fail
          go_ret
          exact ⟨ret_bool (by simp [HNE.out]), HE1.out⟩
        rw [← h4] at d4
        have heq := chg_eq h0 h1 h2 h3 h4
        have HEQ := Lib.hid heq; clear heq h0 h1 h2 h3 h4
        clear hne0
        go_wp2_with fail
        go_quiet (fail)
        have hE1 : Ext w (wr.drewN nq) := HE.out.drewN nq
        generalize wr.drewN nq = w1 at hE1 ⊢
        have HE1 := Lib.hid hE1; clear hE1 c0 c1 c2 c3 c4 d0 d1 d2 d3 d4
        go_wp2_with fail
        go_roundw
        case rel => exact ⟨i + 1, by go_num, by omega, HE1.out, by rw [List.take_add_one, List.take_add_one, HT.out, HX.out, HY.out, HEQ.out]⟩
        case measure => simp [intOf]; omega
  · have q1 : ((N : Int) != (M : Int)) = true := by simp; omega
    have hne : p ≠ q := fun h => hnm (by rw [← HN.out, ← HM.out, h])
    have HNE := Lib.hid hne; clear hne hnm
    go_enter Try.func29, Try.ntmps29
    go_wp2_with fail
    go_ret
    exact ⟨ret_bool (by simp [HNE.out]), Ext.refl _⟩
end Go.Proofs.Ytbjniaihkllmdaa

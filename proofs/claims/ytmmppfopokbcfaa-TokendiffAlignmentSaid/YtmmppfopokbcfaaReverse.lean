/- Contracts: slices.Reverse of matches. -/
import Derived.Test.YtmmppfopokbcfaaMatch
import Derived.RegionTactic
import Derived.ChangeAlike
namespace Go.Proofs.Ytmmppfopokbcfaa
open Go.RowKit

/-- A match in a row of one's own. -/
theorem ownM_get {w : World} {base g n cap : Nat} {ms : List Mt} (h : w.ownsRow base 55 3 (.slice (some ⟨g, 0, none⟩) n cap) n (ms.flatMap Mt.cells)) {k : Nat} {x : Mt} (hx : ms[k]? = some x) :
    w.cell? ⟨g, k * 3, none⟩ = some (.int .i64 x.a) ∧ w.cell? ⟨g, k * 3 + 1, none⟩ = some (.int .i64 x.b) ∧ w.cell? ⟨g, k * 3 + 2, none⟩ = some (.int .i64 x.n) := by
  have hl : ms.length = n := by have := h.1; rw [flat_len mt_cells_len] at this; omega
  have hk : k < n := by rw [← hl]; exact (List.getElem?_eq_some_iff.1 hx).1
  have g' := fun j hj => flat_get mt_cells_len ms k j _ hx hj
  refine ⟨?_, ?_, ?_⟩
  · rw [h.cellAt _ (by omega)]; exact g' 0 (by omega)
  · rw [h.cellAt _ (by omega)]; exact g' 1 (by omega)
  · rw [h.cellAt _ (by omega)]; exact g' 2 (by omega)
theorem flatM_set : ∀ (ms : List Mt) (k : Nat) (y : Mt), (((ms.flatMap Mt.cells).set (k * 3) (.int .i64 y.a)).set (k * 3 + 1) (.int .i64 y.b)).set (k * 3 + 2) (.int .i64 y.n) = (ms.set k y).flatMap Mt.cells
  | [], k, y => by simp
  | x :: t, 0, y => by simp [List.flatMap_cons, Mt.cells]
  | x :: t, k + 1, y => by
    have ih := flatM_set t k y
    rw [show (k + 1) * 3 = k * 3 + 3 by omega]
    simp only [List.flatMap_cons, List.set_cons_succ, Mt.cells, List.cons_append, List.nil_append]
    rw [← ih]
theorem ownM_put {w : World} {base g n cap : Nat} {ms : List Mt} (h : w.ownsRow base 55 3 (.slice (some ⟨g, 0, none⟩) n cap) n (ms.flatMap Mt.cells)) (k : Nat) (y : Mt) :
    (((w.setCell ⟨g, k * 3, none⟩ (.int .i64 y.a)).setCell ⟨g, k * 3 + 1, none⟩ (.int .i64 y.b)).setCell ⟨g, k * 3 + 2, none⟩ (.int .i64 y.n)).ownsRow base 55 3 (.slice (some ⟨g, 0, none⟩) n cap) n ((ms.set k y).flatMap Mt.cells) := by
  rw [← flatM_set]
  exact (((h.stored (k * 3) _).1.stored (k * 3 + 1) _).1.stored (k * 3 + 2) _).1
theorem ownM_free {w : World} {base g n cap : Nat} {ms : List Mt} (h : w.ownsRow base 55 3 (.slice (some ⟨g, 0, none⟩) n cap) n (ms.flatMap Mt.cells)) (k : Nat) :
    w.frozen? ⟨g, k * 3, none⟩ = false ∧ w.frozen? ⟨g, k * 3 + 1, none⟩ = false ∧ w.frozen? ⟨g, k * 3 + 2, none⟩ = false := ⟨h.frozenAt _, h.frozenAt _, h.frozenAt _⟩

/-- The row when k pairs have been exchanged. -/
def RevAt (ms : List Mt) (k : Nat) (L : List Mt) : Prop := L.length = ms.length ∧ ∀ p, p < ms.length → L[p]? = if p < k ∨ ms.length ≤ p + k then ms[ms.length - 1 - p]? else ms[p]?
theorem RevAt.start (ms : List Mt) : RevAt ms 0 ms := ⟨rfl, fun p hp => by rw [if_neg (by omega)]⟩
theorem RevAt.done {ms L : List Mt} {k : Nat} (h : RevAt ms k L) (hk : ms.length ≤ 2 * k + 1) : L = ms.reverse := by
  apply List.ext_getElem?
  intro p
  rcases Nat.lt_or_ge p ms.length with hp | hp
  · rw [h.2 p hp, List.getElem?_reverse hp]
    split
    · rfl
    · rw [show ms.length - 1 - p = p by omega]
  · rw [List.getElem?_eq_none (by rw [h.1]; exact hp), List.getElem?_eq_none (by simpa using hp)]
theorem RevAt.step {ms L : List Mt} {k : Nat} (h : RevAt ms k L) (hk : 2 * k + 1 < ms.length) {x y : Mt} (hx : L[k]? = some x) (hy : L[ms.length - 1 - k]? = some y) : RevAt ms (k + 1) ((L.set k y).set (ms.length - 1 - k) x) := by
  refine ⟨by simp [h.1], fun p hp => ?_⟩
  have h1 := h.2 k (by omega)
  have h2 := h.2 (ms.length - 1 - k) (by omega)
  rw [hx, if_neg (by omega)] at h1
  rw [hy, if_neg (by omega)] at h2
  have hpL : p < L.length := by rw [h.1]; exact hp
  rw [List.getElem?_set]
  by_cases e1 : ms.length - 1 - k = p
  · rw [if_pos e1, if_pos (by simp; omega), if_pos (by omega), h1, show ms.length - 1 - p = k by omega]
  · rw [if_neg e1, List.getElem?_set]
    by_cases e2 : k = p
    · rw [if_pos e2, if_pos (by omega), if_pos (by omega), h2, e2]
    · rw [if_neg e2, h.2 p hp]
      by_cases e3 : p < k ∨ ms.length ≤ p + k
      · rw [if_pos e3, if_pos (by omega)]
      · rw [if_neg e3, if_neg (by omega)]

set_option maxRecDepth 100000 in
set_option maxHeartbeats 4000000 in
theorem reverse_any (base g n c : Nat) (ms : List Mt) (w : World) (ho : w.ownsRow base 55 3 (.slice (some ⟨g, 0, none⟩) n c) n (ms.flatMap Mt.cells)) (hn : n ≤ 100000) :
    Calls Try.prog 62 #[.slice (some ⟨g, 0, none⟩) n c] w fun e w' => (∃ v, e = .returned v) ∧ w'.ownsRow base 55 3 (.slice (some ⟨g, 0, none⟩) n c) n (ms.reverse.flatMap Mt.cells) ∧ Below g w w' := by
  have hl : ms.length = n := by have := ho.1; rw [flat_len mt_cells_len] at this; omega
  subst hl
  have HO := Lib.hid ho; clear ho
  go_enter Try.func62, Try.ntmps62
  go_wp2_with fail
  go_loopw [2, 3] (fun i j wr => ∃ (k : Nat) (L : List Mt), 2 * k ≤ ms.length + 1 ∧ i = .int .i64 k ∧ j = .int .i64 ((ms.length : Int) - 1 - k) ∧ RevAt ms k L ∧ wr.ownsRow base 55 3 (.slice (some ⟨g, 0, none⟩) ms.length c) ms.length (L.flatMap Mt.cells) ∧ Below g w wr) (fun i _ _ => ms.length - (intOf i).toNat)
  case atStart => exact ⟨0, ms, by omega, by go_num, by go_num, RevAt.start ms, HO.out, Below.refl _ _⟩
  case round =>
    obtain ⟨k, L, hk, rfl, rfl, hL, ho, hB⟩ := hrel
    have HL := Lib.hid hL; have HO2 := Lib.hid ho; have HB := Lib.hid hB; clear hL ho hB
    by_cases hlt : 2 * k + 1 < ms.length
    · obtain ⟨q, hq⟩ : ∃ q : Nat, (ms.length : Int) - 1 - k = q := ⟨ms.length - 1 - k, by omega⟩
      have hqn : q = ms.length - 1 - k := by omega
      have hkq : (k : Int) < q := by omega
      have hql : (q : Int) < ms.length := by omega
      have hkl : (k : Int) < ms.length := by omega
      obtain ⟨x, hx⟩ : ∃ x, L[k]? = some x := ⟨_, List.getElem?_eq_getElem (by rw [HL.out.1]; omega)⟩
      obtain ⟨y, hy⟩ : ∃ y, L[q]? = some y := ⟨_, List.getElem?_eq_getElem (by rw [HL.out.1]; omega)⟩
      obtain ⟨c1, c2, c3⟩ := ownM_get HO2.out hx
      obtain ⟨d1, d2, d3⟩ := ownM_get HO2.out hy
      have f := ownM_free HO2.out
      obtain ⟨f1, f2, f3⟩ := f k
      obtain ⟨f4, f5, f6⟩ := f q
      have HX := Lib.hid hx; have HY := Lib.hid hy; have HQ := Lib.hid hq; have HQN := Lib.hid hqn
      rw [hq]
      clear hx hy hq hqn f
      have hne : k ≠ q := by omega
      go_wp2_with fail
      go_region
      go_wp2_with fail
      go_roundw
      case rel =>
        refine ⟨k + 1, (L.set k y).set q x, by omega, by go_num, by have hq := HQ.out; congr 1; omega, ?_, ?_, ?_⟩
        · rw [HQN.out]; exact HL.out.step (by omega) HX.out (HQN.out ▸ HY.out)
        · have h1 := ownM_put HO2.out k y
          exact own_stab3 (Ext.refl _).drew (ownM_put h1 q x)
        · exact ((((((HB.out.setCell (p := ⟨g, k * 3, none⟩) (Nat.le_refl _) _).setCell (p := ⟨g, k * 3 + 1, none⟩) (Nat.le_refl _) _).setCell (p := ⟨g, k * 3 + 2, none⟩) (Nat.le_refl _) _).setCell (p := ⟨g, q * 3, none⟩) (Nat.le_refl _) _).setCell (p := ⟨g, q * 3 + 1, none⟩) (Nat.le_refl _) _).setCell (p := ⟨g, q * 3 + 2, none⟩) (Nat.le_refl _) _).drew
      case measure => simp [intOf]; omega
    · have hge : ¬ ((k : Int) < (ms.length : Int) - 1 - k) := by omega
      have hR := HL.out.done (by omega)
      have HR := Lib.hid hR; clear hR
      go_wp2_with fail
      go_end0
      exact ⟨⟨_, rfl⟩, by rw [← HR.out]; exact HO2.out, HB.out⟩

theorem reverse_nil (w : World) :
    Calls Try.prog 62 #[.slice none 0 0] w fun e w' => (∃ v, e = .returned v) ∧ w = w' := by
  go_enter Try.func62, Try.ntmps62
  go_wp2_with fail
  go_loopw [2, 3] (fun i j wr => i = .int .i64 0 ∧ j = .int .i64 (-1) ∧ w = wr) (fun _ _ _ => 0)
  case atStart => exact ⟨rfl, rfl, rfl⟩
  case round =>
    obtain ⟨rfl, rfl, rfl⟩ := hrel
    go_wp2_with fail
    go_end0
    exact ⟨⟨_, rfl⟩, rfl⟩

/-- How many lines a matching keeps. -/
def keptV (ms : List Mt) : Int := ms.foldl (fun t m => t + m.n) 0
theorem keptV_snoc (l : List Mt) (m : Mt) : keptV (l ++ [m]) = keptV l + m.n := by simp [keptV]
theorem keptV_bound {l : List Mt} (h : ∀ m ∈ l, 0 ≤ m.n ∧ m.n ≤ 1000) (k : Nat) : 0 ≤ keptV (l.take k) ∧ keptV (l.take k) ≤ 1000 * k := by
  induction k with
  | zero => simp [keptV]
  | succ k ih =>
    rcases Nat.lt_or_ge k l.length with hk | hk
    · have e : l.take (k + 1) = l.take k ++ [l[k]] := by rw [List.take_add_one]; simp [hk]
      have := h l[k] (List.getElem_mem hk)
      rw [e, keptV_snoc]
      constructor <;> omega
    · rw [List.take_of_length_le (by omega)]
      rw [List.take_of_length_le hk] at ih
      constructor <;> omega

end Go.Proofs.Ytmmppfopokbcfaa

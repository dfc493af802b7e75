/- Contract: tails. -/
import Derived.Test.YtmmhbnlafcmloaaPaKeep
import Derived.Laws.OwnMore
namespace Go.Proofs.Ytmmhbnlafcmloaa
open Go.RowKit

theorem infoI' : (Try.prog.info? 3).map (fun i => (i.zero, i.size, i.bytes)) = some (some (.int .i64 0), 1, 8) := by kernel_rfl
theorem underI' : Try.prog.underlying 50 = some (.slice 3) := by kernel_rfl
/-- The numbers in memory: q zeros, then t. -/
def tcells (q : Nat) (t : List Nat) : List Value := List.replicate q (.int .i64 0) ++ t.map fun n : Nat => Value.int .i64 (n : Int)
theorem tcells_len (q : Nat) (t : List Nat) : (tcells q t).length = q + t.length := by simp [tcells]
theorem tcells_get {q : Nat} {t : List Nat} {j n : Nat} (h : t[j]? = some n) : (tcells q t)[q + j]? = some (.int .i64 (n : Int)) := by
  unfold tcells
  rw [List.getElem?_append_right (by simp)]
  simp [h]
theorem tcells_set (q : Nat) (t : List Nat) (x : Nat) : (tcells (q + 1) t).set q (.int .i64 (x : Int)) = tcells q (x :: t) := by
  unfold tcells
  rw [List.replicate_succ', List.append_assoc, List.set_append_right _ _ (by simp)]
  simp
theorem tcells_put (q : Nat) (t : List Nat) (x y : Nat) : (tcells q (y :: t)).set q (.int .i64 (x : Int)) = tcells q (x :: t) := by
  unfold tcells
  rw [List.set_append_right _ _ (by simp)]
  simp
theorem own_at {w : World} {base : Nat} {e : TypeId} {size n c g j : Nat} {xs : List Value} {u : Value} (h : w.ownsRow base e size (.slice (some ⟨g, 0, none⟩) n c) n xs) (hj : xs[j]? = some u) : w.cell? ⟨g, j, none⟩ = some u := by
  have := h.cells (g := g) rfl j u hj
  by_cases h0 : j = 0
  · subst h0; simpa [Addr.add] using this
  · simpa [Addr.add, h0] using this
def tailP (x : Mt) (r : List Mt) (t : List Nat) (q : Nat) : Nat := ((r.zip t).take q).foldl (fun m p => if x.b < p.1.b then max m (p.2 + 1) else m) 1
theorem tailP_succ {x : Mt} {r : List Mt} {t : List Nat} {q : Nat} {y : Mt} {n : Nat} (hy : r[q]? = some y) (hn : t[q]? = some n) : tailP x r t (q + 1) = if x.b < y.b then max (tailP x r t q) (n + 1) else tailP x r t q := by
  unfold tailP
  have : (r.zip t)[q]? = some (y, n) := by rw [List.getElem?_zip_eq_some]; exact ⟨hy, hn⟩
  rw [List.take_add_one, this]
  simp only [Option.toList_some, List.foldl_append, List.foldl_cons, List.foldl_nil]
theorem tailP_all (x : Mt) (r : List Mt) : tailP x r (tailsV r) r.length = tail1 x r (tailsV r) := by
  unfold tailP tail1
  rw [List.take_of_length_le (by rw [List.length_zip, tailsV_len]; omega)]
theorem tail1_le (x : Mt) : ∀ (r : List Mt) (t : List Nat) (m L : Nat), m ≤ L → (∀ n ∈ t, n + 1 ≤ L) → (r.zip t).foldl (fun m p => if x.b < p.1.b then max m (p.2 + 1) else m) m ≤ L
  | [], _, m, L, h, _ => by simpa using h
  | y :: r, [], m, L, h, _ => by simpa using h
  | y :: r, n :: t, m, L, h, ht => by
    simp only [List.zip_cons_cons, List.foldl_cons]
    refine tail1_le x r t _ L ?_ (fun k hk => ht k (by simp [hk]))
    have := ht n (by simp)
    split <;> omega
theorem tails_le : ∀ (l : List Mt), ∀ n ∈ tailsV l, n ≤ l.length
  | [], n, h => by simp [tailsV] at h
  | x :: r, n, h => by
    rcases List.mem_cons.1 h with h | h
    · subst h
      exact tail1_le x r (tailsV r) 1 _ (by simp) (fun k hk => by have := tails_le r k hk; simp; omega)
    · have := tails_le r n h; simp; omega
theorem tailP_le (x : Mt) (r : List Mt) (q : Nat) : tailP x r (tailsV r) q ≤ r.length + 1 := by
  unfold tailP
  have h : ((r.zip (tailsV r)).take q) = (r.take q).zip ((tailsV r).take q) := by rw [List.zip_eq_zipWith, List.zip_eq_zipWith, List.take_zipWith]
  rw [h]
  exact tail1_le x _ _ 1 _ (by omega) (fun k hk => by have := tails_le r k (List.mem_of_mem_take hk); omega)

set_option maxRecDepth 100000 in
set_option maxHeartbeats 8000000 in
theorem tails_any (A : Option Addr) (n c : Nat) (l : List Mt) (w : World) (ha : Mts w A n l) (hn : n ≤ 1000) :
    Calls Try.prog 29 #[.slice A n c] w fun e w' => ∃ g, e = .returned (.slice (some ⟨g, 0, none⟩) n n) ∧ w.heap.size ≤ g ∧ w'.ownsRow w.heap.size 3 1 (.slice (some ⟨g, 0, none⟩) n n) n (tcells 0 (tailsV l)) ∧ Ext w w' := by
  obtain rfl : l.length = n := ha.1
  have HA := Lib.hid ha; clear ha
  obtain ⟨inf, i1, i2, i3, i4⟩ := info_of infoI'
  obtain ⟨w1, hmk, how, hg⟩ := run_make_full (P := Try.prog) (w := w) w.heap.size 50 3 inf (.int .i64 0) 1 underI' i1 i2 i3 .i64 .i64 l.length (by rw [i4]; omega) (by unfold maxLen; omega) (Nat.le_refl _)
  have how2 : w1.ownsRow w.heap.size 3 1 (.slice (some ⟨w.heap.size, 0, none⟩) l.length l.length) l.length (tcells l.length (tailsV (l.drop l.length))) := by
    have e : (madeCells (Value.int .i64 0).cells (l.length * 1)).toList = tcells l.length (tailsV (l.drop l.length)) := by
      rw [List.drop_length]
      show (madeCells #[Value.int .i64 0] (l.length * 1)).toList = _
      rw [toList_madeCells_one, Nat.mul_one]
      simp [tcells, tailsV]
    rw [← e]; exact how
  have hE1 : Ext w w1 := Below.grown (Ext.refl w) hg (Nat.le_refl _) (fun j hj => by cases hj)
  have HO1 := Lib.hid how2; have HE1 := Lib.hid hE1; clear how how2 hE1 hg
  go_enter Try.func29, Try.ntmps29
  go_wp2_with fail
  go_loopw [4] (fun v4 wr => ∃ p : Nat, p ≤ l.length ∧ v4 = .int .i64 ((p : Int) - 1) ∧ wr.ownsRow w.heap.size 3 1 (.slice (some ⟨w.heap.size, 0, none⟩) l.length l.length) l.length (tcells p (tailsV (l.drop p))) ∧ Ext w wr) (fun v4 _ => (intOf v4 + 1).toNat)
  case atStart => exact ⟨l.length, Nat.le_refl _, rfl, HO1.out, HE1.out⟩
  clear HO1 HE1
  case round =>
    obtain ⟨p, hp, rfl, ho, hE⟩ := hrel
    have HO := Lib.hid ho; have HE := Lib.hid hE; clear ho hE
    by_cases h0 : p = 0
    case pos =>
      subst h0
      go_wp2_with fail
      go_ret
      exact ⟨_, rfl, Nat.le_refl _, by have := HO.out; rwa [List.drop_zero] at this, HE.out⟩
    obtain ⟨i, rfl⟩ : ∃ i, p = i + 1 := ⟨p - 1, by omega⟩
    obtain ⟨x, hx⟩ : ∃ x, l[i]? = some x := ⟨l[i], List.getElem?_eq_getElem (by omega)⟩
    obtain ⟨r, hr⟩ : ∃ r, l.drop (i + 1) = r := ⟨_, rfl⟩
    have hdrop : l.drop i = x :: r := by rw [drop_of hx, hr]
    have hrl : r.length + (i + 1) = l.length := by rw [← hr, List.length_drop]; omega
    rw [hr] at HO
    have hfz := HO.out.frozenAt i
    have c0 : wr.cell? ⟨w.heap.size, i, none⟩ = some (.int .i64 0) := own_at HO.out (by unfold tcells; rw [List.getElem?_append_left (by simp)]; simp)
    have q1 : ((i + 1 : Nat) : Int) - 1 = (i : Nat) := by omega
    rw [q1]
    have q2 : decide ((0 : Int) ≤ (i : Nat)) = true := by simp
    have hi : i < l.length := by omega
    have HX := Lib.hid hx; have HR := Lib.hid hr; have HDR := Lib.hid hdrop
    clear q1 hx hr hdrop
    go_wp2_with fail
    have hst := (HO.out.stored i (.int .i64 ((1 : Nat) : Int))).1
    rw [tcells_set] at hst
    have hEs : Ext w (wr.setCell ⟨w.heap.size, i, none⟩ (.int .i64 1)) := HE.out.setCell (by simp) _
    have HST := Lib.hid hst; have HES := Lib.hid hEs
    clear hst hEs HO HE c0 hfz q2
    go_loopw [5] (fun v5 wr => ∃ k : Nat, i + 1 ≤ k ∧ k ≤ l.length ∧ v5 = .int .i64 k ∧ wr.ownsRow w.heap.size 3 1 (.slice (some ⟨w.heap.size, 0, none⟩) l.length l.length) l.length (tcells i (tailP x r (tailsV r) (k - (i + 1)) :: tailsV r)) ∧ Ext w wr) (fun v5 _ => l.length - (intOf v5).toNat)
    case atStart => exact ⟨i + 1, Nat.le_refl _, by omega, rfl, by rw [Nat.sub_self]; exact HST.out, HES.out⟩
    clear HST HES
    case round =>
      obtain ⟨k, hk1, hk2, rfl, ho, hE⟩ := hrel
      have HO := Lib.hid ho; have HE := Lib.hid hE; clear ho hE
      by_cases hkl : k < l.length
      case neg =>
        obtain rfl : k = l.length := by omega
        go_wp2_with fail
        go_roundw
        case rel =>
          refine ⟨i, by omega, rfl, ?_, HE.out⟩
          rw [HDR.out, tailsV, ← tailP_all]
          have := HO.out
          rwa [show l.length - (i + 1) = r.length by omega] at this
        case measure => simp [intOf]
      case pos =>
        obtain ⟨y, hy⟩ : ∃ y, l[k]? = some y := ⟨l[k], List.getElem?_eq_getElem (by omega)⟩
        have hyr : r[k - (i + 1)]? = some y := by rw [← HR.out, List.getElem?_drop, show i + 1 + (k - (i + 1)) = k by omega]; exact hy
        obtain ⟨t, ht⟩ : ∃ t, (tailsV r)[k - (i + 1)]? = some t := ⟨_, List.getElem?_eq_getElem (by rw [tailsV_len]; omega)⟩
        obtain ⟨ba, oa, x', hA, hba, hx', -, d0, d1, d2⟩ := (HA.out.ext HE.out).get (k := i) (by omega)
        obtain ⟨ba', oa', y', hA', -, hy', -, e0, e1, e2⟩ := (HA.out.ext HE.out).get hkl
        subst hA
        cases hA'
        rw [HX.out] at hx'; cases hx'
        rw [hy] at hy'; cases hy'
        have hsn := tailP_succ (x := x) hyr ht
        have htl : t ≤ 1000 := by have := tails_le r t (List.mem_of_getElem? ht); omega
        obtain ⟨v, hv⟩ : ∃ v, tailP x r (tailsV r) (k - (i + 1)) = v := ⟨_, rfl⟩
        have hvl : v ≤ 1001 := by rw [← hv]; have := tailP_le x r (k - (i + 1)); omega
        rw [hv] at HO hsn
        have c1 : wr.cell? ⟨w.heap.size, i, none⟩ = some (.int .i64 v) := own_at (j := i) HO.out (tcells_get (j := 0) rfl)
        have c2 : wr.cell? ⟨w.heap.size, k, none⟩ = some (.int .i64 t) := by
          have h3 : (tcells i (v :: tailsV r))[i + (k - (i + 1) + 1)]? = some (.int .i64 t) := tcells_get (by rw [List.getElem?_cons_succ]; exact ht)
          rw [show i + (k - (i + 1) + 1) = k by omega] at h3
          exact own_at HO.out h3
        have hfz := HO.out.frozenAt i
        rw [show k - (i + 1) + 1 = k + 1 - (i + 1) by omega] at hsn
        have HSN := Lib.hid hsn; clear hsn hv ht hy hyr d0 d2 e0 e2
        by_cases hxy : x.b < y.b
        case neg =>
          have h1 := HSN.out; rw [if_neg hxy] at h1
          have H1 := Lib.hid h1; clear h1
          have q3 := nd hxy
          go_wp2_with fail
          go_quiet (fail)
          go_wp2_with fail
          go_roundw
          case rel => exact ⟨k + 1, by omega, by omega, by go_num, by rw [H1.out]; exact own_stab3 ((Ext.refl wr).drewN nq) HO.out, HE.out.drewN _⟩
          case measure => simp [intOf]; omega
        have h1 := HSN.out; rw [if_pos hxy] at h1
        have H1 := Lib.hid h1; clear h1
        have q3 := yd hxy
        go_wp2_with fail
        go_quiet (fail)
        go_wp2_with fail
        go_region
        go_wp2_with fail
        have hmx : (if (v : Int) < (t : Int) + 1 then (t : Int) + 1 else (v : Int)) = ((max v (t + 1) : Nat) : Int) := by split <;> omega
        rw [hmx]
        go_roundw
        case rel =>
          have hst := ((own_stab3 ((Ext.refl wr).drewN (nq + 1)) HO.out).stored i (.int .i64 ((max v (t + 1) : Nat) : Int))).1
          rw [tcells_put] at hst
          exact ⟨k + 1, by omega, by omega, by go_num, by rw [H1.out]; exact hst, (HE.out.drewN _).setCell (by simp) _⟩
        case measure => simp [intOf]; omega
end Go.Proofs.Ytmmhbnlafcmloaa

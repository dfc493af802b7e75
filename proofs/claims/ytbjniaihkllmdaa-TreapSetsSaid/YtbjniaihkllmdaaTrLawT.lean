/- Plain laws of the reference's Of, Join, Union. No condition. -/
import Derived.Test.YtbjniaihkllmdaaTrREdit
import Derived.Test.YtbjniaihkllmdaaTrLawO
import Derived.Test.YtbjniaihkllmdaaTrLawU
import Derived.Test.YtbjniaihkllmdaaTrJoin
namespace Go.Proofs.Ytbjniaihkllmdaa
open Go.RowKit

theorem with_put2 {b : BT} {k v : ByteArray} (h1 : SP b) (h2 : HP b) : withV (prsV b) ⟨k, v⟩ = prsV (putV k v b) := by
  obtain ⟨g1, g2, g3⟩ := put_spec k v b h1 h2
  obtain ⟨e1, e2⟩ := with_spec ⟨k, v⟩ (prsV b) ((asc_sp b).2 h1)
  exact pw_eq Pr.k _ _ e1 ((asc_sp _).2 g1) (fun p => by rw [e2, g3])
theorem with_old (x : Pr) : ∀ l : List Pr, (∃ y ∈ l, y.k = x.k) → (withV l x).length ≤ l.length
  | [], h => by obtain ⟨y, hy, -⟩ := h; simp at hy
  | y :: l, h => by
    unfold withV
    rw [withG]
    by_cases e : y.k = x.k
    · cases c : klt y.k x.k with
      | true => exact absurd e (klt_ne c)
      | false =>
        have h2 := List.length_filter_le (fun y : Pr => decide (y.k ≠ x.k)) l
        simp only [Bool.not_false, Bool.or_true, and_self, if_true, withG_true, if_pos e, List.append_nil, List.singleton_append, List.length_cons]
        omega
    · have hl : ∃ y ∈ l, y.k = x.k := by
        obtain ⟨z, hz, ez⟩ := h
        rcases List.mem_cons.1 hz with rfl | hz
        · exact absurd ez e
        · exact ⟨z, hz, ez⟩
      cases c : klt y.k x.k with
      | true =>
        have ih := with_old x l hl
        unfold withV at ih
        simp only [Bool.not_true, Bool.or_false, reduceCtorEq, and_false, if_false, List.nil_append, if_neg e, List.singleton_append, List.length_cons]
        omega
      | false =>
        have hf : (l.filter (fun y : Pr => decide (y.k ≠ x.k))).length < l.length := by
          rcases Nat.lt_or_ge (l.filter (fun y : Pr => decide (y.k ≠ x.k))).length l.length with h' | h'
          · exact h'
          · obtain ⟨z, hz, ez⟩ := hl
            have := List.length_filter_eq_length_iff.1 (Nat.le_antisymm (List.length_filter_le _ l) h') z hz
            simp [ez] at this
        simp only [Bool.not_false, Bool.or_true, and_self, if_true, withG_true, if_neg e, List.singleton_append, List.cons_append, List.nil_append, List.length_cons]
        omega
/-- The pairs that with collects, and Of's tree. -/
theorem of_with : ∀ (l : List Pr) (m : BT), SP m → HP m →
    (ofV m l = none ∧ (allV (prsV m) l).length < m.size + l.length) ∨ (∃ n, ofV m l = some n ∧ SP n ∧ HP n ∧ prsV n = allV (prsV m) l ∧ n.size = m.size + l.length)
  | [], m, h1, h2 => .inr ⟨m, rfl, h1, h2, rfl, rfl⟩
  | x :: l, m, h1, h2 => by
    have hst : allV (prsV m) (x :: l) = allV (withV (prsV m) x) l := rfl
    cases hf : findV x.k m with
    | some v =>
      left
      refine ⟨by rw [ofV, hf]; rfl, ?_⟩
      have hm := (find_mem h1 x.k v).1 hf
      have h3 := with_old x (prsV m) ⟨_, hm, rfl⟩
      have h4 := all_len l (withV (prsV m) x)
      rw [prs_len] at h3
      rw [hst, List.length_cons]; omega
    | none =>
      obtain ⟨g1, g2, -⟩ := put_spec x.k x.v m h1 h2
      have hw : withV (prsV m) x = prsV (putV x.k x.v m) := with_put2 h1 h2
      have hs := put_new x.k x.v m h1 (fun p hp => (find_none h1 x.k).1 hf p hp)
      have e : ofV m (x :: l) = ofV (putV x.k x.v m) l := by rw [ofV, hf]; rfl
      rcases of_with l (putV x.k x.v m) g1 g2 with ⟨a1, a2⟩ | ⟨n, a1, a2, a3, a4, a5⟩
      · left
        exact ⟨by rw [e]; exact a1, by rw [hst, hw, List.length_cons]; omega⟩
      · right
        exact ⟨n, by rw [e]; exact a1, a2, a3, by rw [hst, hw]; exact a4, by rw [List.length_cons]; omega⟩
theorem of_all (l : List Pr) (ha : anyLong l = false) :
    (ofR l = (.leaf, 6) ∧ (allV [] l).length < l.length) ∨ (∃ n, ofR l = (n, 0) ∧ SP n ∧ HP n ∧ prsV n = allV [] l ∧ (allV [] l).length = l.length) := by
  rcases of_with l .leaf trivial trivial with ⟨a1, a2⟩ | ⟨n, a1, a2, a3, a4, a5⟩
  · left
    refine ⟨by rw [ofR, if_neg (by rw [ha]; simp), a1], ?_⟩
    have : (allV (prsV .leaf) l).length < 0 + l.length := a2
    rw [Nat.zero_add] at this
    exact this
  · right
    refine ⟨n, by rw [ofR, if_neg (by rw [ha]; simp), a1], a2, a3, a4, ?_⟩
    have h : allV (prsV .leaf) l = allV [] l := rfl
    have h5 : n.size = 0 + l.length := a5
    rw [← h, ← a4, prs_len, h5, Nat.zero_add]
theorem all_mem : ∀ (k l : List Pr), l.Pairwise (fun x y => klt x.k y.k = true) → k.Pairwise (fun x y => x.k ≠ y.k) → ∀ p, p ∈ allV l k ↔ p ∈ k ∨ (p ∈ l ∧ ∀ q ∈ k, q.k ≠ p.k)
  | [], l, _, _, p => by simp [allV]
  | x :: k, l, hl, hk, p => by
    obtain ⟨k1, k2⟩ := List.pairwise_cons.1 hk
    obtain ⟨h1, h2⟩ := with_spec x l hl
    have ih := all_mem k (withV l x) h1 k2 p
    have hst : allV l (x :: k) = allV (withV l x) k := rfl
    rw [hst, ih, h2]
    constructor
    · rintro (h | ⟨rfl | ⟨h, hn⟩, ho⟩)
      · exact .inl (by simp [h])
      · exact .inl (by simp)
      · refine .inr ⟨h, fun q hq => ?_⟩
        rcases List.mem_cons.1 hq with rfl | hq
        · exact fun e => hn e.symm
        · exact ho q hq
    · rintro (h | ⟨h, ho⟩)
      · rcases List.mem_cons.1 h with rfl | h
        · exact .inr ⟨.inl rfl, fun q hq e => k1 q hq e.symm⟩
        · exact .inl h
      · exact .inr ⟨.inr ⟨h, fun e => ho x (by simp) e.symm⟩, fun q hq => ho q (by simp [hq])⟩
theorem all_union {a b : BT} (ha : OK a) (hb : OK b) : prsV (unionV a b) = allV (prsV a) (prsV b) := by
  have sa := (asc_sp a).2 ha.1
  obtain ⟨u1, u2⟩ := union_spec ha hb
  exact pw_eq Pr.k _ _ ((asc_sp _).2 u1.1) (all_spec (prsV b) (prsV a) sa).1 (fun p => by rw [u2, all_mem _ _ sa (prs_distinct hb)])
theorem join_lt {a b : BT} (ha : OK a) (hb : OK b) (h : joinOk (prsV a) (prsV b) = true) : ∀ p ∈ prsV a, ∀ q ∈ prsV b, klt p.k q.k = true := by
  have sa := (asc_sp a).2 ha.1
  have sb := (asc_sp b).2 hb.1
  generalize prsV a = k at h sa ⊢
  generalize prsV b = l at h sb ⊢
  intro p hp q hq
  cases hl : l with
  | nil => rw [hl] at hq; simp at hq
  | cons y l' =>
    have hkn : k ≠ [] := by rintro rfl; simp at hp
    have hx : k.getLast? = some (k.getLast hkn) := List.getLast?_eq_some_getLast hkn
    unfold joinOk at h
    rw [hx, hl] at h
    have h : klt (k.getLast hkn).k y.k = true := h
    have h1 : p.k = (k.getLast hkn).k ∨ klt p.k (k.getLast hkn).k = true := by
      have hsp : k = k.dropLast ++ [k.getLast hkn] := (List.dropLast_concat_getLast hkn).symm
      rw [hsp] at hp sa
      rcases List.mem_append.1 hp with hp | hp
      · exact .inr ((List.pairwise_append.1 sa).2.2 p hp _ (by simp))
      · left; simp at hp; rw [hp]
    have h2 : q.k = y.k ∨ klt y.k q.k = true := by
      rw [hl] at hq sb
      rcases List.mem_cons.1 hq with rfl | hq
      · exact .inl rfl
      · exact .inr ((List.pairwise_cons.1 sb).1 q hq)
    have h3 : klt p.k y.k = true := by
      rcases h1 with e | h1
      · rw [e]; exact h
      · exact klt_trans h1 h
    rcases h2 with e | h2
    · rw [e]; exact h3
    · exact klt_trans h3 h2
theorem join_prs {a b : BT} (ha : OK a) (hb : OK b) (h : joinOk (prsV a) (prsV b) = true) : prsV (joinV a b) = prsV a ++ prsV b ∧ OK (joinV a b) := by
  have hlt := join_lt ha hb h
  obtain ⟨j1, j2, j3⟩ := join_spec ha.1 ha.2.1 hb.1 hb.2.1 hlt
  refine ⟨pw_eq Pr.k _ _ ((asc_sp _).2 j1) (List.pairwise_append.2 ⟨(asc_sp a).2 ha.1, (asc_sp b).2 hb.1, hlt⟩) (fun p => by rw [j3, List.mem_append]), j1, j2, fun p hp => ?_⟩
  rcases (j3 p).1 hp with h | h
  · exact ha.2.2 p h
  · exact hb.2.2 p h
theorem all_sub : ∀ (k l : List Pr) {p : Pr}, p ∈ allV l k → p ∈ k ∨ p ∈ l
  | [], l, p, h => .inr h
  | x :: k, l, p, h => by
    have h : p ∈ allV (withV l x) k := h
    rcases all_sub k (withV l x) h with h | h
    · exact .inl (by simp [h])
    · rcases withG_mem _ _ _ h with rfl | h
      · exact .inl (by simp)
      · exact .inr h
/-- What Of returns is a valid tree. -/
theorem of_good (l : List Pr) : OK (ofR l).1 ∧ (ofR l).1.size ≤ l.length := by
  cases ha : anyLong l with
  | true =>
    have : ofR l = (.leaf, 4) := by rw [ofR, if_pos ha]
    rw [this]; exact ⟨ok_leaf, Nat.zero_le _⟩
  | false =>
    rcases of_all l ha with ⟨e, -⟩ | ⟨n, e, h1, h2, h3, h4⟩
    · rw [e]; exact ⟨ok_leaf, Nat.zero_le _⟩
    · rw [e]
      refine ⟨⟨h1, h2, fun p hp => ?_⟩, ?_⟩
      · rw [h3] at hp
        rcases all_sub l [] hp with hp | hp
        · unfold anyLong at ha
          rw [List.any_eq_false] at ha
          simpa using ha p hp
        · simp at hp
      · show n.size ≤ l.length
        rw [← prs_len, h3, h4]; exact Nat.le_refl _
end Go.Proofs.Ytbjniaihkllmdaa

/- Plain laws of Of and of lists of pairs. No condition. -/
import Derived.Test.YtbjniaihkllmdaaTrLawP
import Derived.Test.YtbjniaihkllmdaaTrOf
import Derived.Test.YtbjniaihkllmdaaTrSame
namespace Go.Proofs.Ytbjniaihkllmdaa
open Go.RowKit

/-- Of, on a list whose keys differ and are not in the tree. -/
theorem ofV_spec : ∀ (l : List Pr) (m : BT), SP m → HP m → l.Pairwise (fun x y => x.k ≠ y.k) → (∀ p ∈ l, ∀ q ∈ prsV m, q.k ≠ p.k) →
    ∃ n, ofV m l = some n ∧ SP n ∧ HP n ∧ n.size = m.size + l.length ∧ ∀ p, p ∈ prsV n ↔ p ∈ prsV m ∨ p ∈ l
  | [], m, h1, h2, _, _ => ⟨m, rfl, h1, h2, rfl, fun p => by simp⟩
  | x :: l, m, h1, h2, hd, hn => by
    obtain ⟨g1, g2, g3⟩ := put_spec x.k x.v m h1 h2
    have hf : findV x.k m = none := (find_none h1 x.k).2 (fun p hp => hn x (by simp) p hp)
    obtain ⟨hd1, hd2⟩ := List.pairwise_cons.1 hd
    obtain ⟨n, e1, e2, e3, e4, e5⟩ := ofV_spec l (putV x.k x.v m) g1 g2 hd2 (fun p hp q hq => by
      rcases (g3 q).1 hq with rfl | ⟨h, _⟩
      · exact hd1 p hp
      · exact hn p (by simp [hp]) q h)
    refine ⟨n, by rw [ofV, hf]; simpa using e1, e2, e3, ?_, fun p => ?_⟩
    · rw [e4, put_new x.k x.v m h1 (fun p hp => hn x (by simp) p hp), List.length_cons]; omega
    · rw [e5, g3]
      constructor
      · rintro ((rfl | ⟨h, _⟩) | h)
        · exact .inr (by simp)
        · exact .inl h
        · exact .inr (by simp [h])
      · rintro (h | h)
        · exact .inl (.inr ⟨h, hn x (by simp) p h⟩)
        · rcases List.mem_cons.1 h with rfl | h
          · exact .inl (.inl rfl)
          · exact .inr h
theorem of_ok {l : List Pr} (hd : l.Pairwise (fun x y => x.k ≠ y.k)) (hl : ∀ p ∈ l, lgB p.k p.v = false) :
    ∃ n, ofR l = (n, 0) ∧ OK n ∧ n.size = l.length ∧ ∀ p, p ∈ prsV n ↔ p ∈ l := by
  obtain ⟨n, e1, e2, e3, e4, e5⟩ := ofV_spec l .leaf trivial trivial hd (fun p _ q hq => absurd hq (mem_leaf q))
  have hm : ∀ p, p ∈ prsV n ↔ p ∈ l := fun p => by rw [e5]; simp [prsV]
  refine ⟨n, ?_, ⟨e2, e3, fun p hp => hl p ((hm p).1 hp)⟩, by rw [e4]; simp [BT.size], hm⟩
  have ha : anyLong l = false := by
    unfold anyLong
    rw [List.any_eq_false]
    exact fun p hp => by rw [hl p hp]; simp
  rw [ofR, if_neg (by rw [ha]; simp), e1]
theorem prs_distinct {b : BT} (h : OK b) : (prsV b).Pairwise (fun x y => x.k ≠ y.k) := ((asc_sp b).2 h.1).imp (fun h => klt_ne h)
/-- Of the pairs of a valid tree is the tree. -/
theorem of_list {b : BT} (h : OK b) : ofR (prsV b) = (b, 0) := by
  obtain ⟨n, e1, e2, e3, e4⟩ := of_ok (prs_distinct h) h.2.2
  rw [e1, ok_uniq e2 h e4]
theorem same_prs {a b : BT} (ha : OK a) (hb : OK b) : decide (prsV a = prsV b) = sameB a b := by
  by_cases h : a = b
  · subst h; rw [(sameB_iff a a).2 rfl]; simp
  · have h1 : prsV a ≠ prsV b := fun e => h (ok_uniq ha hb (fun p => by rw [e]))
    have h2 : sameB a b = false := by
      cases e : sameB a b with
      | false => rfl
      | true => exact absurd ((sameB_iff a b).1 e) h
    rw [h2]; simp [h1]
end Go.Proofs.Ytbjniaihkllmdaa

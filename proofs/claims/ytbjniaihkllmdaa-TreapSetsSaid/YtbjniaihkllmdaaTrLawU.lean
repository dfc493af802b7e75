/- Plain laws of Union. No condition. -/
import Derived.Test.YtbjniaihkllmdaaTrLawP
import Derived.Test.YtbjniaihkllmdaaTrUnion
namespace Go.Proofs.Ytbjniaihkllmdaa
open Go.RowKit

theorem fold_spec : ∀ (l : List Nod) (m : BT), SP m → HP m → l.Pairwise (fun x y => x.k ≠ y.k) →
    SP (l.foldl putN m) ∧ HP (l.foldl putN m) ∧ ∀ p, p ∈ prsV (l.foldl putN m) ↔ (∃ x ∈ l, p = ⟨x.k, x.v⟩) ∨ (p ∈ prsV m ∧ ∀ x ∈ l, x.k ≠ p.k)
  | [], m, h1, h2, _ => ⟨h1, h2, fun p => by simp⟩
  | x :: l, m, h1, h2, hd => by
    obtain ⟨g1, g2, g3⟩ := put_spec x.k x.v m h1 h2
    obtain ⟨hd1, hd2⟩ := List.pairwise_cons.1 hd
    obtain ⟨e1, e2, e3⟩ := fold_spec l (putN m x) g1 g2 hd2
    refine ⟨e1, e2, fun p => ?_⟩
    rw [List.foldl_cons, e3]
    have g3' : p ∈ prsV (putN m x) ↔ p = ⟨x.k, x.v⟩ ∨ (p ∈ prsV m ∧ p.k ≠ x.k) := g3 p
    rw [g3']
    constructor
    · rintro (⟨y, hy, rfl⟩ | ⟨rfl | ⟨h, hn⟩, ha⟩)
      · exact .inl ⟨y, by simp [hy], rfl⟩
      · exact .inl ⟨x, by simp, rfl⟩
      · refine .inr ⟨h, fun y hy => ?_⟩
        rcases List.mem_cons.1 hy with rfl | hy
        · exact hn.symm
        · exact ha y hy
    · rintro (⟨y, hy, rfl⟩ | ⟨h, ha⟩)
      · rcases List.mem_cons.1 hy with rfl | hy
        · exact .inr ⟨.inl rfl, fun z hz => (hd1 z hz).symm⟩
        · exact .inl ⟨y, hy, rfl⟩
      · exact .inr ⟨.inr ⟨h, (ha x (by simp)).symm⟩, fun y hy => ha y (by simp [hy])⟩
theorem nodes_mem {b : BT} {p : Pr} : (∃ x ∈ nodesV b, p = ⟨x.k, x.v⟩) ↔ p ∈ prsV b := by
  rw [prs_nodes, List.mem_map]
  constructor
  · rintro ⟨x, hx, rfl⟩; exact ⟨x, hx, rfl⟩
  · rintro ⟨x, hx, rfl⟩; exact ⟨x, hx, rfl⟩
theorem union_spec {a b : BT} (ha : OK a) (hb : OK b) : OK (unionV a b) ∧ ∀ p, p ∈ prsV (unionV a b) ↔ p ∈ prsV b ∨ (p ∈ prsV a ∧ ∀ q ∈ prsV b, q.k ≠ p.k) := by
  have hd : (nodesV b).Pairwise (fun x y => x.k ≠ y.k) := by
    have h := (asc_sp b).2 hb.1
    rw [prs_nodes, List.pairwise_map] at h
    exact h.imp (fun h => klt_ne h)
  obtain ⟨e1, e2, e3⟩ := fold_spec (nodesV b) a ha.1 ha.2.1 hd
  have hm : ∀ p, p ∈ prsV (unionV a b) ↔ p ∈ prsV b ∨ (p ∈ prsV a ∧ ∀ q ∈ prsV b, q.k ≠ p.k) := fun p => by
    unfold unionV
    rw [e3, nodes_mem]
    have : (∀ x ∈ nodesV b, x.k ≠ p.k) ↔ ∀ q ∈ prsV b, q.k ≠ p.k := by
      rw [prs_nodes]; simp
    rw [this]
  refine ⟨⟨e1, e2, fun p hp => ?_⟩, hm⟩
  rcases (hm p).1 hp with h | ⟨h, _⟩
  · exact hb.2.2 p h
  · exact ha.2.2 p h
theorem union_size {a b : BT} : (unionV a b).size ≤ a.size + b.size := by
  have h1 := fold_size (nodesV b) a
  have h2 := prs_len b
  rw [prs_nodes, List.length_map] at h2
  unfold unionV; omega
theorem find_union {a b : BT} (ha : OK a) (hb : OK b) (k : ByteArray) : findV k (unionV a b) = match findV k b with | some v => some v | none => findV k a := by
  obtain ⟨h1, h2⟩ := union_spec ha hb
  cases hf : findV k b with
  | some v => exact (find_mem h1.1 k v).2 ((h2 _).2 (.inl ((find_mem hb.1 k v).1 hf)))
  | none =>
    have hn := (find_none hb.1 k).1 hf
    show findV k (unionV a b) = findV k a
    cases hg : findV k a with
    | some v => exact (find_mem h1.1 k v).2 ((h2 _).2 (.inr ⟨(find_mem ha.1 k v).1 hg, hn⟩))
    | none =>
      rw [find_none h1.1]
      intro p hp
      rcases (h2 p).1 hp with h | ⟨h, _⟩
      · exact hn p h
      · exact (find_none ha.1 k).1 hg p h
theorem union_assoc {a b c : BT} (ha : OK a) (hb : OK b) (hc : OK c) : unionV (unionV a b) c = unionV a (unionV b c) := by
  obtain ⟨h1, h2⟩ := union_spec ha hb
  obtain ⟨h3, h4⟩ := union_spec hb hc
  obtain ⟨h5, h6⟩ := union_spec h1 hc
  obtain ⟨h7, h8⟩ := union_spec ha h3
  refine ok_uniq h5 h7 fun p => ?_
  rw [h6, h8, h2, h4]
  constructor
  · rintro (h | ⟨h | ⟨h, hn⟩, hm⟩)
    · exact .inl (.inl h)
    · exact .inl (.inr ⟨h, hm⟩)
    · refine .inr ⟨h, fun q hq => ?_⟩
      rcases (h4 q).1 hq with hq | ⟨hq, _⟩
      · exact hm q hq
      · exact hn q hq
  · rintro ((h | ⟨h, hm⟩) | ⟨h, hn⟩)
    · exact .inl h
    · exact .inr ⟨.inl h, hm⟩
    · by_cases hc' : ∃ q ∈ prsV c, q.k = p.k
      · obtain ⟨q, hq, e⟩ := hc'
        exact absurd e (hn q ((h4 q).2 (.inl hq)))
      · have hcn : ∀ q ∈ prsV c, q.k ≠ p.k := fun q hq e => hc' ⟨q, hq, e⟩
        refine .inr ⟨.inr ⟨h, fun q hq e => ?_⟩, hcn⟩
        exact hn q ((h4 q).2 (.inr ⟨hq, fun r hr e2 => hcn r hr (by rw [e2, e])⟩)) e
end Go.Proofs.Ytbjniaihkllmdaa

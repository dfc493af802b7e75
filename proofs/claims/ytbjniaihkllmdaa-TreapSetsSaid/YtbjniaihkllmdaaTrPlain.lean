/- Plain laws of treaps: what the operations hold, and that what is held tells the tree. No condition. -/
import Derived.Test.YtbjniaihkllmdaaTrRCheck
namespace Go.Proofs.Ytbjniaihkllmdaa
open Go.RowKit

/-- In the order of the keys. -/
def SP : BT → Prop
  | .leaf => True
  | .node l k _ r => (∀ p ∈ prsV l, klt p.k k = true) ∧ (∀ p ∈ prsV r, klt k p.k = true) ∧ SP l ∧ SP r
/-- In the order of the priorities. -/
def HP : BT → Prop
  | .leaf => True
  | .node l k _ r => (∀ p ∈ prsV l, ahB k p.k = true) ∧ (∀ p ∈ prsV r, ahB k p.k = true) ∧ HP l ∧ HP r
theorem mem_leaf (p : Pr) : ¬ p ∈ prsV .leaf := by simp [prsV]
theorem mem_node {l r : BT} {k v : ByteArray} {p : Pr} : p ∈ prsV (.node l k v r) ↔ p ∈ prsV l ∨ p = ⟨k, v⟩ ∨ p ∈ prsV r := by simp [prsV]
theorem asc_pair : ∀ l : List Pr, ascB l = true ↔ l.Pairwise (fun x y => klt x.k y.k = true)
  | [] => by simp [ascB]
  | [x] => by simp [ascB]
  | x :: y :: r => by
    rw [ascB, Bool.and_eq_true, asc_pair (y :: r), List.pairwise_cons (a := x)]
    constructor
    · rintro ⟨h1, h2⟩
      refine ⟨fun z hz => ?_, h2⟩
      rcases List.mem_cons.1 hz with rfl | hz
      · exact h1
      · exact klt_trans h1 ((List.pairwise_cons.1 h2).1 z hz)
    · rintro ⟨h1, h2⟩
      exact ⟨h1 y (by simp), h2⟩
theorem asc_sp : ∀ b : BT, (prsV b).Pairwise (fun x y => klt x.k y.k = true) ↔ SP b
  | .leaf => by simp [prsV, SP]
  | .node l k v r => by
    rw [prsV, SP, List.append_assoc, List.pairwise_append, ← asc_sp l, List.singleton_append, List.pairwise_cons, ← asc_sp r]
    constructor
    · rintro ⟨h1, ⟨h2, h3⟩, h4⟩
      exact ⟨fun p hp => h4 p hp ⟨k, v⟩ (by simp), h2, h1, h3⟩
    · rintro ⟨h1, h2, h3, h4⟩
      refine ⟨h3, ⟨h2, h4⟩, fun p hp q hq => ?_⟩
      rcases List.mem_cons.1 hq with rfl | hq
      · exact h1 p hp
      · exact klt_trans (h1 p hp) (h2 q hq)
theorem top_hp {k : ByteArray} {b : BT} (h : HP b) : topB k b = true ↔ ∀ p ∈ prsV b, ahB k p.k = true := by
  cases b with
  | leaf => simp [topB, prsV]
  | node l k' v r =>
    constructor
    · intro ht p hp
      have ht : ahB k k' = true := ht
      rcases mem_node.1 hp with hp | rfl | hp
      · exact ah_trans ht (h.1 p hp)
      · exact ht
      · exact ah_trans ht (h.2.1 p hp)
    · exact fun ha => ha ⟨k', v⟩ (mem_node.2 (.inr (.inl rfl)))
theorem heap_hp : ∀ b : BT, heapB b = true ↔ HP b
  | .leaf => by simp [heapB, HP]
  | .node l k v r => by
    rw [heapB, HP, Bool.and_eq_true, Bool.and_eq_true, Bool.and_eq_true, heap_hp l, heap_hp r]
    constructor
    · rintro ⟨⟨⟨h1, h2⟩, h3⟩, h4⟩; exact ⟨(top_hp h3).1 h1, (top_hp h4).1 h2, h3, h4⟩
    · rintro ⟨h1, h2, h3, h4⟩; exact ⟨⟨⟨(top_hp h3).2 h1, (top_hp h4).2 h2⟩, h3⟩, h4⟩
/-- A valid tree. -/
def OK (b : BT) : Prop := SP b ∧ HP b ∧ ∀ p ∈ prsV b, lgB p.k p.v = false
theorem chk_ok (b : BT) : chkV b = 0 ↔ OK b := by
  unfold OK
  rw [← asc_sp, ← asc_pair, ← heap_hp, chkV]
  have e : anyLong (prsV b) = true ↔ ¬ ∀ p ∈ prsV b, lgB p.k p.v = false := by simp [anyLong]
  cases h1 : anyLong (prsV b) <;> cases h2 : ascB (prsV b) <;> cases h3 : heapB b <;> simp_all
theorem key_eq : ∀ {b : BT}, SP b → ∀ {p q : Pr}, p ∈ prsV b → q ∈ prsV b → p.k = q.k → p = q
  | .leaf, _, p, q, hp, _, _ => absurd hp (mem_leaf p)
  | .node l k v r, h, p, q, hp, hq, e => by
    obtain ⟨h1, h2, h3, h4⟩ := h
    have irr : ∀ a : ByteArray, klt a a = true → False := fun a ha => by rw [klt_irrefl] at ha; cases ha
    rcases mem_node.1 hp with hp | rfl | hp <;> rcases mem_node.1 hq with hq | rfl | hq
    · exact key_eq h3 hp hq e
    · exact (irr k (by have := h1 p hp; rw [e] at this; exact this)).elim
    · exact (irr k (klt_trans (h2 q hq) (by rw [← e]; exact h1 p hp))).elim
    · exact (irr k (by have := h1 q hq; rw [← e] at this; exact this)).elim
    · rfl
    · exact (irr k (by have := h2 q hq; rw [← e] at this; exact this)).elim
    · exact (irr k (klt_trans (h2 p hp) (by rw [e]; exact h1 q hq))).elim
    · exact (irr k (by have := h2 p hp; rw [e] at this; exact this)).elim
    · exact key_eq h4 hp hq e
/-- What a valid tree holds tells it. -/
theorem uniq : ∀ a b : BT, SP a → HP a → SP b → HP b → (∀ p, p ∈ prsV a ↔ p ∈ prsV b) → a = b
  | .leaf, .leaf, _, _, _, _, _ => rfl
  | .leaf, .node l k v r, _, _, _, _, h => absurd ((h ⟨k, v⟩).2 (mem_node.2 (.inr (.inl rfl)))) (mem_leaf _)
  | .node l k v r, .leaf, _, _, _, _, h => absurd ((h ⟨k, v⟩).1 (mem_node.2 (.inr (.inl rfl)))) (mem_leaf _)
  | .node l k v r, .node l' k' v' r', sa, ha, sb, hb, h => by
    obtain ⟨sa1, sa2, sa3, sa4⟩ := sa
    obtain ⟨sb1, sb2, sb3, sb4⟩ := sb
    obtain ⟨ha1, ha2, ha3, ha4⟩ := ha
    obtain ⟨hb1, hb2, hb3, hb4⟩ := hb
    have e1 := (h ⟨k, v⟩).1 (mem_node.2 (.inr (.inl rfl)))
    have e2 := (h ⟨k', v'⟩).2 (mem_node.2 (.inr (.inl rfl)))
    have f1 : (⟨k, v⟩ : Pr) = ⟨k', v'⟩ ∨ ahB k' k = true := by
      rcases mem_node.1 e1 with e1 | e1 | e1
      · exact .inr (hb1 ⟨k, v⟩ e1)
      · exact .inl e1
      · exact .inr (hb2 ⟨k, v⟩ e1)
    have f2 : (⟨k', v'⟩ : Pr) = ⟨k, v⟩ ∨ ahB k k' = true := by
      rcases mem_node.1 e2 with e2 | e2 | e2
      · exact .inr (ha1 ⟨k', v'⟩ e2)
      · exact .inl e2
      · exact .inr (ha2 ⟨k', v'⟩ e2)
    have he : (⟨k, v⟩ : Pr) = ⟨k', v'⟩ := by
      rcases f1 with f1 | f1
      · exact f1
      · rcases f2 with f2 | f2
        · exact f2.symm
        · have := ah_asymm f1
          rw [this] at f2; cases f2
    clear f1 f2
    obtain ⟨rfl, rfl⟩ : k = k' ∧ v = v' := by simpa using he
    have irr : ∀ a : ByteArray, klt a a = true → False := fun a ha => by rw [klt_irrefl] at ha; cases ha
    have hl : ∀ p, p ∈ prsV l ↔ p ∈ prsV l' := fun p => by
      constructor
      · intro hp
        rcases mem_node.1 ((h p).1 (mem_node.2 (.inl hp))) with h' | rfl | h'
        · exact h'
        · exact (irr _ (sa1 _ hp)).elim
        · exact (irr _ (klt_trans (sa1 _ hp) (sb2 _ h'))).elim
      · intro hp
        rcases mem_node.1 ((h p).2 (mem_node.2 (.inl hp))) with h' | rfl | h'
        · exact h'
        · exact (irr _ (sb1 _ hp)).elim
        · exact (irr _ (klt_trans (sb1 _ hp) (sa2 _ h'))).elim
    have hr : ∀ p, p ∈ prsV r ↔ p ∈ prsV r' := fun p => by
      constructor
      · intro hp
        rcases mem_node.1 ((h p).1 (mem_node.2 (.inr (.inr hp)))) with h' | rfl | h'
        · exact (irr _ (klt_trans (sa2 _ hp) (sb1 _ h'))).elim
        · exact (irr _ (sa2 _ hp)).elim
        · exact h'
      · intro hp
        rcases mem_node.1 ((h p).2 (mem_node.2 (.inr (.inr hp)))) with h' | rfl | h'
        · exact (irr _ (klt_trans (sb2 _ hp) (sa1 _ h'))).elim
        · exact (irr _ (sb2 _ hp)).elim
        · exact h'
    rw [uniq l l' sa3 ha3 sb3 hb3 hl, uniq r r' sa4 ha4 sb4 hb4 hr]

theorem find_mem : ∀ {b : BT}, SP b → ∀ (k v : ByteArray), findV k b = some v ↔ (⟨k, v⟩ : Pr) ∈ prsV b
  | .leaf, _, k, v => by simp [findV, prsV]
  | .node l k' v' r, h, k, v => by
    obtain ⟨h1, h2, h3, h4⟩ := h
    have irr : ∀ a : ByteArray, klt a a = true → False := fun a ha => by rw [klt_irrefl] at ha; cases ha
    rw [findV, mem_node]
    by_cases c1 : klt k k' = true
    · rw [if_pos c1, find_mem h3]
      constructor
      · exact .inl
      · rintro (h | h | h)
        · exact h
        · simp only [Pr.mk.injEq] at h; rw [h.1] at c1; exact (irr _ c1).elim
        · exact (irr _ (klt_trans c1 (h2 _ h))).elim
    · rw [if_neg c1]
      by_cases c2 : k = k'
      · subst c2
        rw [if_pos rfl]
        constructor
        · intro h; simp only [Option.some.injEq] at h; rw [h]; exact .inr (.inl rfl)
        · rintro (h | h | h)
          · exact (irr _ (h1 _ h)).elim
          · simp only [Pr.mk.injEq] at h; rw [h.2]
          · exact (irr _ (h2 _ h)).elim
      · rw [if_neg c2, find_mem h4]
        constructor
        · exact fun h => .inr (.inr h)
        · rintro (h | h | h)
          · exact absurd (h1 _ h) c1
          · simp only [Pr.mk.injEq] at h; exact absurd h.1 c2
          · exact h
theorem find_none {b : BT} (h : SP b) (k : ByteArray) : findV k b = none ↔ ∀ p ∈ prsV b, p.k ≠ k := by
  constructor
  · intro hn p hp e
    have := (find_mem h k p.v).2 (by rw [← e]; exact hp)
    rw [hn] at this; cases this
  · intro ha
    cases hf : findV k b with
    | none => rfl
    | some v => exact absurd rfl (ha _ ((find_mem h k v).1 hf))

theorem split_spec (k : ByteArray) : ∀ b : BT, SP b → HP b → SP (splitV k b).1 ∧ HP (splitV k b).1 ∧ SP (splitV k b).2 ∧ HP (splitV k b).2 ∧
    (∀ p, p ∈ prsV (splitV k b).1 ↔ p ∈ prsV b ∧ klt p.k k = true) ∧ (∀ p, p ∈ prsV (splitV k b).2 ↔ p ∈ prsV b ∧ klt p.k k = false)
  | .leaf, _, _ => by simp [splitV, SP, HP, prsV]
  | .node l k' v r, hs, hh => by
    obtain ⟨s1, s2, s3, s4⟩ := hs
    obtain ⟨t1, t2, t3, t4⟩ := hh
    rw [splitV]
    by_cases c : klt k' k = true
    · obtain ⟨a1, a2, a3, a4, a5, a6⟩ := split_spec k r s4 t4
      rw [if_pos c]
      refine ⟨⟨s1, fun p hp => s2 p ((a5 p).1 hp).1, s3, a1⟩, ⟨t1, fun p hp => t2 p ((a5 p).1 hp).1, t3, a2⟩, a3, a4, fun p => ?_, fun p => ?_⟩
      · simp only [mem_node, a5]
        constructor
        · rintro (h | rfl | ⟨h, h'⟩)
          · exact ⟨.inl h, klt_trans (s1 p h) c⟩
          · exact ⟨.inr (.inl rfl), c⟩
          · exact ⟨.inr (.inr h), h'⟩
        · rintro ⟨h | rfl | h, h'⟩
          · exact .inl h
          · exact .inr (.inl rfl)
          · exact .inr (.inr ⟨h, h'⟩)
      · simp only [mem_node, a6]
        constructor
        · rintro ⟨h, h'⟩; exact ⟨.inr (.inr h), h'⟩
        · rintro ⟨h | rfl | h, h'⟩
          · rw [klt_trans (s1 p h) c] at h'; cases h'
          · rw [c] at h'; cases h'
          · exact ⟨h, h'⟩
    · obtain ⟨a1, a2, a3, a4, a5, a6⟩ := split_spec k l s3 t3
      have c' : klt k' k = false := by simpa using c
      rw [if_neg c]
      refine ⟨a1, a2, ⟨fun p hp => s1 p ((a6 p).1 hp).1, s2, a3, s4⟩, ⟨fun p hp => t1 p ((a6 p).1 hp).1, t2, a4, t4⟩, fun p => ?_, fun p => ?_⟩
      · simp only [mem_node, a5]
        constructor
        · rintro ⟨h, h'⟩; exact ⟨.inl h, h'⟩
        · rintro ⟨h | rfl | h, h'⟩
          · exact ⟨h, h'⟩
          · rw [c'] at h'; cases h'
          · rw [klt_trans (s2 p h) h'] at c'; cases c'
      · simp only [mem_node, a6]
        constructor
        · rintro (⟨h, h'⟩ | rfl | h)
          · exact ⟨.inl h, h'⟩
          · exact ⟨.inr (.inl rfl), c'⟩
          · refine ⟨.inr (.inr h), ?_⟩
            cases e : klt p.k k with
            | false => rfl
            | true => rw [klt_trans (s2 p h) e] at c'; cases c'
        · rintro ⟨h | rfl | h, h'⟩
          · exact .inl ⟨h, h'⟩
          · exact .inr (.inl rfl)
          · exact .inr (.inr h)

theorem joinF_spec : ∀ (f : Nat) (a b : BT), a.size + b.size < f → SP a → HP a → SP b → HP b → (∀ p ∈ prsV a, ∀ q ∈ prsV b, klt p.k q.k = true) →
    SP (joinF f a b) ∧ HP (joinF f a b) ∧ ∀ p, p ∈ prsV (joinF f a b) ↔ p ∈ prsV a ∨ p ∈ prsV b
  | 0, _, _, h, _, _, _, _, _ => absurd h (by omega)
  | f + 1, .leaf, b, _, _, _, sb, hb, _ => ⟨sb, hb, fun p => by simp [joinF, prsV]⟩
  | f + 1, .node l k v r, .leaf, _, sa, ha, _, _, _ => ⟨sa, ha, fun p => by simp [joinF, prsV]⟩
  | f + 1, .node l k v r, .node l' k' v' r', hf, sa, ha, sb, hb, hlt => by
    rw [joinF]
    simp only [BT.size] at hf
    have root : (⟨k, v⟩ : Pr) ∈ prsV (.node l k v r) := mem_node.2 (.inr (.inl rfl))
    have root' : (⟨k', v'⟩ : Pr) ∈ prsV (.node l' k' v' r') := mem_node.2 (.inr (.inl rfl))
    by_cases c : ahB k k' = true
    · rw [if_pos c]
      obtain ⟨j1, j2, j3⟩ := joinF_spec f r (.node l' k' v' r') (by simp only [BT.size]; omega) sa.2.2.2 ha.2.2.2 sb hb (fun p hp q hq => hlt p (mem_node.2 (.inr (.inr hp))) q hq)
      have top : ∀ q ∈ prsV (.node l' k' v' r'), ahB k q.k = true := fun q hq => by
        rcases mem_node.1 hq with h | rfl | h
        · exact ah_trans c (hb.1 q h)
        · exact c
        · exact ah_trans c (hb.2.1 q h)
      refine ⟨⟨sa.1, fun p hp => ?_, sa.2.2.1, j1⟩, ⟨ha.1, fun p hp => ?_, ha.2.2.1, j2⟩, fun p => ?_⟩
      · rcases (j3 p).1 hp with h | h
        · exact sa.2.1 p h
        · exact hlt _ root p h
      · rcases (j3 p).1 hp with h | h
        · exact ha.2.1 p h
        · exact top p h
      · rw [mem_node, j3 p, mem_node (l := l) (r := r)]
        constructor
        · rintro (h | h | h | h)
          · exact .inl (.inl h)
          · exact .inl (.inr (.inl h))
          · exact .inl (.inr (.inr h))
          · exact .inr h
        · rintro ((h | h | h) | h)
          · exact .inl h
          · exact .inr (.inl h)
          · exact .inr (.inr (.inl h))
          · exact .inr (.inr (.inr h))
    · rw [if_neg c]
      obtain ⟨j1, j2, j3⟩ := joinF_spec f (.node l k v r) l' (by simp only [BT.size]; omega) sa ha sb.2.2.1 hb.2.2.1 (fun p hp q hq => hlt p hp q (mem_node.2 (.inl hq)))
      have c' : ahB k' k = true := by
        rcases ah_tri k k' with h | h | h
        · exact absurd h c
        · have := hlt _ root _ root'
          simp only [h, klt_irrefl] at this; cases this
        · exact h
      have top : ∀ q ∈ prsV (.node l k v r), ahB k' q.k = true := fun q hq => by
        rcases mem_node.1 hq with h | rfl | h
        · exact ah_trans c' (ha.1 q h)
        · exact c'
        · exact ah_trans c' (ha.2.1 q h)
      refine ⟨⟨fun p hp => ?_, sb.2.1, j1, sb.2.2.2⟩, ⟨fun p hp => ?_, hb.2.1, j2, hb.2.2.2⟩, fun p => ?_⟩
      · rcases (j3 p).1 hp with h | h
        · exact hlt p h _ root'
        · exact sb.1 p h
      · rcases (j3 p).1 hp with h | h
        · exact top p h
        · exact hb.1 p h
      · rw [mem_node, j3 p, mem_node (l := l') (r := r')]
        constructor
        · rintro ((h | h) | h | h)
          · exact .inl h
          · exact .inr (.inl h)
          · exact .inr (.inr (.inl h))
          · exact .inr (.inr (.inr h))
        · rintro (h | h | h | h)
          · exact .inl (.inl h)
          · exact .inl (.inr h)
          · exact .inr (.inl h)
          · exact .inr (.inr h)
theorem join_spec {a b : BT} (sa : SP a) (ha : HP a) (sb : SP b) (hb : HP b) (hlt : ∀ p ∈ prsV a, ∀ q ∈ prsV b, klt p.k q.k = true) :
    SP (joinV a b) ∧ HP (joinV a b) ∧ ∀ p, p ∈ prsV (joinV a b) ↔ p ∈ prsV a ∨ p ∈ prsV b := joinF_spec _ a b (Nat.lt_succ_self _) sa ha sb hb hlt

theorem put_spec (k v : ByteArray) : ∀ b : BT, SP b → HP b → SP (putV k v b) ∧ HP (putV k v b) ∧ ∀ p, p ∈ prsV (putV k v b) ↔ p = ⟨k, v⟩ ∨ (p ∈ prsV b ∧ p.k ≠ k)
  | .leaf, _, _ => by simp [putV, SP, HP, prsV]
  | .node l k' v' r, hs, hh => by
    have irr : ∀ a : ByteArray, klt a a = true → False := fun a ha => by rw [klt_irrefl] at ha; cases ha
    rw [putV]
    by_cases c1 : k' = k
    · subst c1
      rw [if_pos rfl]
      refine ⟨hs, hh, fun p => ?_⟩
      simp only [mem_node]
      constructor
      · rintro (h | h | h)
        · exact .inr ⟨.inl h, klt_ne (hs.1 p h)⟩
        · exact .inl h
        · exact .inr ⟨.inr (.inr h), (klt_ne (hs.2.1 p h)).symm⟩
      · rintro (h | ⟨h | rfl | h, hn⟩)
        · exact .inr (.inl h)
        · exact .inl h
        · exact absurd rfl hn
        · exact .inr (.inr h)
    · rw [if_neg c1]
      by_cases c2 : ahB k k' = true
      · rw [if_pos c2]
        obtain ⟨a1, a2, a3, a4, a5, a6⟩ := split_spec k (.node l k' v' r) hs hh
        have top : ∀ q ∈ prsV (.node l k' v' r), ahB k q.k = true := fun q hq => by
          rcases mem_node.1 hq with h | rfl | h
          · exact ah_trans c2 (hh.1 q h)
          · exact c2
          · exact ah_trans c2 (hh.2.1 q h)
        have nek : ∀ q ∈ prsV (.node l k' v' r), q.k ≠ k := fun q hq e => by
          have := top q hq
          rw [e, ah_irrefl] at this; cases this
        refine ⟨⟨fun p hp => ((a5 p).1 hp).2, fun p hp => ?_, a1, a3⟩, ⟨fun p hp => top p ((a5 p).1 hp).1, fun p hp => top p ((a6 p).1 hp).1, a2, a4⟩, fun p => ?_⟩
        · obtain ⟨h1, h2⟩ := (a6 p).1 hp
          rcases klt_tri k p.k with h | h | h
          · exact h
          · exact absurd h.symm (nek p h1)
          · rw [h] at h2; cases h2
        · rw [mem_node, a5, a6]
          constructor
          · rintro (⟨h, _⟩ | h | ⟨h, _⟩)
            · exact .inr ⟨h, nek p h⟩
            · exact .inl h
            · exact .inr ⟨h, nek p h⟩
          · rintro (h | ⟨h, _⟩)
            · exact .inr (.inl h)
            · cases e : klt p.k k with
              | true => exact .inl ⟨h, rfl⟩
              | false => exact .inr (.inr ⟨h, rfl⟩)
      · rw [if_neg c2]
        have c2' : ahB k' k = true := by
          rcases ah_tri k k' with h | h | h
          · exact absurd h c2
          · exact absurd h.symm c1
          · exact h
        obtain ⟨s1, s2, s3, s4⟩ := hs
        obtain ⟨t1, t2, t3, t4⟩ := hh
        by_cases c3 : klt k k' = true
        · rw [if_pos c3]
          obtain ⟨a1, a2, a3⟩ := put_spec k v l s3 t3
          refine ⟨⟨fun p hp => ?_, s2, a1, s4⟩, ⟨fun p hp => ?_, t2, a2, t4⟩, fun p => ?_⟩
          · rcases (a3 p).1 hp with rfl | ⟨h, _⟩
            · exact c3
            · exact s1 p h
          · rcases (a3 p).1 hp with rfl | ⟨h, _⟩
            · exact c2'
            · exact t1 p h
          · rw [mem_node, a3 p, mem_node]
            constructor
            · rintro ((h | ⟨h, hn⟩) | rfl | h)
              · exact .inl h
              · exact .inr ⟨.inl h, hn⟩
              · exact .inr ⟨.inr (.inl rfl), c1⟩
              · exact .inr ⟨.inr (.inr h), fun e => irr k (klt_trans c3 (by rw [← e]; exact s2 p h))⟩
            · rintro (h | ⟨h | h | h, hn⟩)
              · exact .inl (.inl h)
              · exact .inl (.inr ⟨h, hn⟩)
              · exact .inr (.inl h)
              · exact .inr (.inr h)
        · rw [if_neg c3]
          have c3' : klt k' k = true := by
            rcases klt_tri k k' with h | h | h
            · exact absurd h c3
            · exact absurd h.symm c1
            · exact h
          obtain ⟨a1, a2, a3⟩ := put_spec k v r s4 t4
          refine ⟨⟨s1, fun p hp => ?_, s3, a1⟩, ⟨t1, fun p hp => ?_, t3, a2⟩, fun p => ?_⟩
          · rcases (a3 p).1 hp with rfl | ⟨h, _⟩
            · exact c3'
            · exact s2 p h
          · rcases (a3 p).1 hp with rfl | ⟨h, _⟩
            · exact c2'
            · exact t2 p h
          · rw [mem_node, a3 p, mem_node]
            constructor
            · rintro (h | rfl | h | ⟨h, hn⟩)
              · exact .inr ⟨.inl h, fun e => irr k (klt_trans (by rw [← e]; exact s1 p h) c3')⟩
              · exact .inr ⟨.inr (.inl rfl), c1⟩
              · exact .inl h
              · exact .inr ⟨.inr (.inr h), hn⟩
            · rintro (h | ⟨h | h | h, hn⟩)
              · exact .inr (.inr (.inl h))
              · exact .inl h
              · exact .inr (.inl h)
              · exact .inr (.inr (.inr ⟨h, hn⟩))

theorem wo_spec (k : ByteArray) : ∀ b : BT, SP b → HP b → SP (woV k b) ∧ HP (woV k b) ∧ ∀ p, p ∈ prsV (woV k b) ↔ p ∈ prsV b ∧ p.k ≠ k
  | .leaf, _, _ => by simp [woV, SP, HP, prsV]
  | .node l k' v' r, hs, hh => by
    have irr : ∀ a : ByteArray, klt a a = true → False := fun a ha => by rw [klt_irrefl] at ha; cases ha
    obtain ⟨s1, s2, s3, s4⟩ := hs
    obtain ⟨t1, t2, t3, t4⟩ := hh
    rw [woV]
    by_cases c1 : k = k'
    · subst c1
      rw [if_pos rfl]
      obtain ⟨a1, a2, a3⟩ := join_spec s3 t3 s4 t4 (fun p hp q hq => klt_trans (s1 p hp) (s2 q hq))
      refine ⟨a1, a2, fun p => ?_⟩
      rw [a3 p, mem_node]
      constructor
      · rintro (h | h)
        · exact ⟨.inl h, klt_ne (s1 p h)⟩
        · exact ⟨.inr (.inr h), (klt_ne (s2 p h)).symm⟩
      · rintro ⟨h | rfl | h, hn⟩
        · exact .inl h
        · exact absurd rfl hn
        · exact .inr h
    · rw [if_neg c1]
      by_cases c3 : klt k k' = true
      · rw [if_pos c3]
        obtain ⟨a1, a2, a3⟩ := wo_spec k l s3 t3
        refine ⟨⟨fun p hp => s1 p ((a3 p).1 hp).1, s2, a1, s4⟩, ⟨fun p hp => t1 p ((a3 p).1 hp).1, t2, a2, t4⟩, fun p => ?_⟩
        rw [mem_node, a3 p, mem_node]
        constructor
        · rintro (⟨h, hn⟩ | rfl | h)
          · exact ⟨.inl h, hn⟩
          · exact ⟨.inr (.inl rfl), fun e => c1 e.symm⟩
          · exact ⟨.inr (.inr h), fun e => irr k (klt_trans c3 (by rw [← e]; exact s2 p h))⟩
        · rintro ⟨h | h | h, hn⟩
          · exact .inl ⟨h, hn⟩
          · exact .inr (.inl h)
          · exact .inr (.inr h)
      · rw [if_neg c3]
        have c3' : klt k' k = true := by
          rcases klt_tri k k' with h | h | h
          · exact absurd h c3
          · exact absurd h c1
          · exact h
        obtain ⟨a1, a2, a3⟩ := wo_spec k r s4 t4
        refine ⟨⟨s1, fun p hp => s2 p ((a3 p).1 hp).1, s3, a1⟩, ⟨t1, fun p hp => t2 p ((a3 p).1 hp).1, t3, a2⟩, fun p => ?_⟩
        rw [mem_node, a3 p, mem_node]
        constructor
        · rintro (h | rfl | ⟨h, hn⟩)
          · exact ⟨.inl h, fun e => irr k (klt_trans (by rw [← e]; exact s1 p h) c3')⟩
          · exact ⟨.inr (.inl rfl), fun e => c1 e.symm⟩
          · exact ⟨.inr (.inr h), hn⟩
        · rintro ⟨h | h | h, hn⟩
          · exact .inl h
          · exact .inr (.inl h)
          · exact .inr (.inr ⟨h, hn⟩)

/-! ### Sizes -/
theorem split_size (k : ByteArray) : ∀ b : BT, (splitV k b).1.size + (splitV k b).2.size = b.size
  | .leaf => rfl
  | .node l k' v r => by
    rw [splitV]
    have h1 := split_size k l
    have h2 := split_size k r
    split <;> simp only [BT.size] <;> omega
theorem joinF_size : ∀ (f : Nat) (a b : BT), a.size + b.size < f → (joinF f a b).size = a.size + b.size
  | 0, _, _, h => absurd h (by omega)
  | f + 1, .leaf, b, _ => by simp [joinF, BT.size]
  | f + 1, .node l k v r, .leaf, _ => by simp [joinF, BT.size]
  | f + 1, .node l k v r, .node l' k' v' r', h => by
    rw [joinF]
    simp only [BT.size] at h
    split
    · have := joinF_size f r (.node l' k' v' r') (by simp only [BT.size]; omega)
      simp only [BT.size] at this ⊢; omega
    · have := joinF_size f (.node l k v r) l' (by simp only [BT.size]; omega)
      simp only [BT.size] at this ⊢; omega
theorem join_size (a b : BT) : (joinV a b).size = a.size + b.size := joinF_size _ a b (Nat.lt_succ_self _)
theorem put_size (k v : ByteArray) : ∀ b : BT, (putV k v b).size ≤ b.size + 1
  | .leaf => by simp [putV, BT.size]
  | .node l k' v' r => by
    rw [putV]
    have h1 := put_size k v l
    have h2 := put_size k v r
    have h3 := split_size k (.node l k' v' r)
    split
    · simp [BT.size]
    · split
      · simp only [BT.size] at h3 ⊢; omega
      · split <;> simp only [BT.size] at h3 ⊢ <;> omega
theorem wo_size (k : ByteArray) : ∀ b : BT, (woV k b).size ≤ b.size
  | .leaf => by simp [woV]
  | .node l k' v' r => by
    rw [woV]
    have h1 := wo_size k l
    have h2 := wo_size k r
    split
    · rw [join_size]; simp only [BT.size]; omega
    · split <;> simp only [BT.size] <;> omega
/-- A new key adds one node. -/
theorem put_new (k v : ByteArray) : ∀ b : BT, SP b → (∀ p ∈ prsV b, p.k ≠ k) → (putV k v b).size = b.size + 1
  | .leaf, _, _ => by simp [putV, BT.size]
  | .node l k' v' r, hs, hn => by
    rw [putV, if_neg (hn ⟨k', v'⟩ (mem_node.2 (.inr (.inl rfl))))]
    have h1 := put_new k v l hs.2.2.1 (fun p hp => hn p (mem_node.2 (.inl hp)))
    have h2 := put_new k v r hs.2.2.2 (fun p hp => hn p (mem_node.2 (.inr (.inr hp))))
    have h3 := split_size k (.node l k' v' r)
    split
    · simp only [BT.size] at h3 ⊢; omega
    · split <;> simp only [BT.size] <;> omega
end Go.Proofs.Ytbjniaihkllmdaa

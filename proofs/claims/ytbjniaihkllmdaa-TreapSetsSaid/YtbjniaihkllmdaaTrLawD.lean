/- Plain laws of Diff. No condition. -/
import Derived.Test.YtbjniaihkllmdaaTrLawP
import Derived.Test.YtbjniaihkllmdaaTrDiff
namespace Go.Proofs.Ytbjniaihkllmdaa
open Go.RowKit

/-- A list of pairs in order. -/
def Srt (l : List Pr) : Prop := l.Pairwise (fun x y => klt x.k y.k = true)
def swapC (c : Chg) : Chg := ⟨c.k, c.n, c.o⟩
theorem diff_swap : ∀ k l : List Pr, diffV l k = (diffV k l).map swapC
  | [], [] => by simp [diffV]
  | x :: k, [] => by
    rw [diffV, diffV, diff_swap k []]; rfl
  | [], y :: l => by
    rw [diffV, diffV, diff_swap [] l]; rfl
  | x :: k, y :: l => by
    rw [diffV, diffV]
    by_cases h1 : klt x.k y.k = true
    · have h2 := klt_asymm h1
      rw [if_neg (by rw [h2]; simp), if_pos h1, if_pos h1, diff_swap k (y :: l)]; rfl
    · by_cases h2 : klt y.k x.k = true
      · rw [if_pos h2, if_neg h1, if_pos h2, diff_swap (x :: k) l]; rfl
      · rw [if_neg h2, if_neg h1, if_neg h1, if_neg h2, diff_swap k l]
        have he : x.k = y.k := by
          rcases klt_tri x.k y.k with h | h | h
          · exact absurd h h1
          · exact h
          · exact absurd h h2
        by_cases h3 : x.v = y.v
        · rw [if_pos h3, if_pos h3.symm]; rfl
        · rw [if_neg h3, if_neg (fun h => h3 h.symm), he]; rfl
termination_by k l => k.length + l.length
theorem diff_self : ∀ l : List Pr, diffV l l = []
  | [] => by simp [diffV]
  | x :: l => by
    rw [diffV, if_neg (by rw [klt_irrefl]; simp), if_neg (by rw [klt_irrefl]; simp), if_pos rfl, diff_self l]; rfl
/-- What a change says of a key. -/
def look (k : ByteArray) (l : List Pr) : Option ByteArray := (l.find? (fun p => decide (p.k = k))).map (·.v)
theorem look_cons (k : ByteArray) (x : Pr) (l : List Pr) : look k (x :: l) = if x.k = k then some x.v else look k l := by
  unfold look
  rw [List.find?_cons]
  by_cases h : x.k = k
  · simp [h]
  · simp [h]
theorem look_none {k : ByteArray} {l : List Pr} (h : ∀ p ∈ l, p.k ≠ k) : look k l = none := by
  unfold look
  rw [List.find?_eq_none.2 (fun p hp => by simpa using h p hp)]; rfl
theorem look_lt {k : ByteArray} {x : Pr} {l : List Pr} (h : Srt (x :: l)) (hk : klt k x.k = true ∨ k = x.k) : look k l = none := by
  refine look_none fun p hp e => ?_
  have := (List.pairwise_cons.1 h).1 p hp
  rw [e] at this
  rcases hk with hk | hk
  · have := klt_trans this hk; rw [klt_irrefl] at this; cases this
  · rw [hk, klt_irrefl] at this; cases this
/-- The changes of two lists in order: their keys ascend; each says what the lists hold; a key that they do not name has the same value in both. -/
theorem diff_spec : ∀ k l : List Pr, Srt k → Srt l → (diffV k l).Pairwise (fun c d => klt c.k d.k = true) ∧ (∀ c ∈ diffV k l, c.o = look c.k k ∧ c.n = look c.k l ∧ c.o ≠ c.n) ∧ (∀ key, (∀ c ∈ diffV k l, c.k ≠ key) → look key k = look key l)
  | [], [], _, _ => by simp [diffV]
  | x :: k, [], hk, hl => by
    obtain ⟨h1, h2, h3⟩ := diff_spec k [] (List.pairwise_cons.1 hk).2 hl
    have low : ∀ c ∈ diffV k [], klt x.k c.k = true := fun c hc => by
      obtain ⟨e1, e2, e3⟩ := h2 c hc
      rcases klt_tri x.k c.k with h | h | h
      · exact h
      · rw [e1, e2, ← h, look_lt hk (.inr rfl)] at e3; exact absurd rfl e3
      · rw [e1, e2, look_lt hk (.inl h)] at e3; exact absurd rfl e3
    rw [diffV]
    refine ⟨List.pairwise_cons.2 ⟨low, h1⟩, fun c hc => ?_, fun key hkey => ?_⟩
    · rcases List.mem_cons.1 hc with rfl | hc
      · exact ⟨by simp [look_cons], by simp [look], by simp⟩
      · obtain ⟨e1, e2, e3⟩ := h2 c hc
        have := klt_ne (low c hc)
        exact ⟨by rw [look_cons, if_neg this]; exact e1, e2, e3⟩
    · rw [look_cons, if_neg (hkey ⟨x.k, some x.v, none⟩ (by simp))]
      exact h3 key (fun c hc => hkey c (by simp [hc]))
  | [], y :: l, hk, hl => by
    obtain ⟨h1, h2, h3⟩ := diff_spec [] l hk (List.pairwise_cons.1 hl).2
    have low : ∀ c ∈ diffV [] l, klt y.k c.k = true := fun c hc => by
      obtain ⟨e1, e2, e3⟩ := h2 c hc
      rcases klt_tri y.k c.k with h | h | h
      · exact h
      · rw [e1, e2, ← h, look_lt hl (.inr rfl)] at e3; exact absurd rfl e3
      · rw [e1, e2, look_lt hl (.inl h)] at e3; exact absurd rfl e3
    rw [diffV]
    refine ⟨List.pairwise_cons.2 ⟨low, h1⟩, fun c hc => ?_, fun key hkey => ?_⟩
    · rcases List.mem_cons.1 hc with rfl | hc
      · exact ⟨by simp [look], by simp [look_cons], by simp⟩
      · obtain ⟨e1, e2, e3⟩ := h2 c hc
        have := klt_ne (low c hc)
        exact ⟨e1, by rw [look_cons, if_neg this]; exact e2, e3⟩
    · rw [look_cons key y, if_neg (hkey ⟨y.k, none, some y.v⟩ (by simp))]
      exact h3 key (fun c hc => hkey c (by simp [hc]))
  | x :: k, y :: l, hk, hl => by
    rw [diffV]
    by_cases c1 : klt x.k y.k = true
    · obtain ⟨h1, h2, h3⟩ := diff_spec k (y :: l) (List.pairwise_cons.1 hk).2 hl
      have hxl : look x.k (y :: l) = none := by rw [look_cons, if_neg (klt_ne c1).symm]; exact look_lt hl (.inl c1)
      have low : ∀ c ∈ diffV k (y :: l), klt x.k c.k = true := fun c hc => by
        obtain ⟨e1, e2, e3⟩ := h2 c hc
        rcases klt_tri x.k c.k with h | h | h
        · exact h
        · rw [e1, e2, ← h, look_lt hk (.inr rfl), hxl] at e3; exact absurd rfl e3
        · rw [e1, e2, look_lt hk (.inl h), look_cons, if_neg (klt_ne (klt_trans h c1)).symm, look_lt hl (.inl (klt_trans h c1))] at e3; exact absurd rfl e3
      rw [if_pos c1]
      refine ⟨List.pairwise_cons.2 ⟨low, h1⟩, fun c hc => ?_, fun key hkey => ?_⟩
      · rcases List.mem_cons.1 hc with rfl | hc
        · exact ⟨by simp [look_cons], hxl.symm, by simp⟩
        · obtain ⟨e1, e2, e3⟩ := h2 c hc
          exact ⟨by rw [look_cons, if_neg (klt_ne (low c hc))]; exact e1, e2, e3⟩
      · rw [look_cons key x, if_neg (hkey ⟨x.k, some x.v, none⟩ (by simp))]
        exact h3 key (fun c hc => hkey c (by simp [hc]))
    · rw [if_neg c1]
      by_cases c2 : klt y.k x.k = true
      · obtain ⟨h1, h2, h3⟩ := diff_spec (x :: k) l hk (List.pairwise_cons.1 hl).2
        have hyk : look y.k (x :: k) = none := by rw [look_cons, if_neg (klt_ne c2).symm]; exact look_lt hk (.inl c2)
        have low : ∀ c ∈ diffV (x :: k) l, klt y.k c.k = true := fun c hc => by
          obtain ⟨e1, e2, e3⟩ := h2 c hc
          rcases klt_tri y.k c.k with h | h | h
          · exact h
          · rw [e1, e2, ← h, look_lt hl (.inr rfl), hyk] at e3; exact absurd rfl e3
          · rw [e1, e2, look_lt hl (.inl h), look_cons, if_neg (klt_ne (klt_trans h c2)).symm, look_lt hk (.inl (klt_trans h c2))] at e3; exact absurd rfl e3
        rw [if_pos c2]
        refine ⟨List.pairwise_cons.2 ⟨low, h1⟩, fun c hc => ?_, fun key hkey => ?_⟩
        · rcases List.mem_cons.1 hc with rfl | hc
          · exact ⟨hyk.symm, by simp [look_cons], by simp⟩
          · obtain ⟨e1, e2, e3⟩ := h2 c hc
            exact ⟨e1, by rw [look_cons, if_neg (klt_ne (low c hc))]; exact e2, e3⟩
        · rw [look_cons key y, if_neg (hkey ⟨y.k, none, some y.v⟩ (by simp))]
          exact h3 key (fun c hc => hkey c (by simp [hc]))
      · obtain ⟨h1, h2, h3⟩ := diff_spec k l (List.pairwise_cons.1 hk).2 (List.pairwise_cons.1 hl).2
        have he : x.k = y.k := by
          rcases klt_tri x.k y.k with h | h | h
          · exact absurd h c1
          · exact h
          · exact absurd h c2
        have low : ∀ c ∈ diffV k l, klt x.k c.k = true := fun c hc => by
          obtain ⟨e1, e2, e3⟩ := h2 c hc
          rcases klt_tri x.k c.k with h | h | h
          · exact h
          · rw [e1, e2, ← h, look_lt hk (.inr rfl), look_lt hl (.inr he)] at e3; exact absurd rfl e3
          · rw [e1, e2, look_lt hk (.inl h), look_lt hl (.inl (by rw [← he]; exact h))] at e3; exact absurd rfl e3
        rw [if_neg c2]
        have lift : ∀ c ∈ diffV k l, c.o = look c.k (x :: k) ∧ c.n = look c.k (y :: l) ∧ c.o ≠ c.n := fun c hc => by
          obtain ⟨e1, e2, e3⟩ := h2 c hc
          have hn := klt_ne (low c hc)
          exact ⟨by rw [look_cons, if_neg hn]; exact e1, by rw [look_cons, if_neg (by rw [← he]; exact hn)]; exact e2, e3⟩
        by_cases hv : x.v = y.v
        · rw [if_pos hv, List.nil_append]
          refine ⟨h1, lift, fun key hkey => ?_⟩
          rw [look_cons, look_cons, he, hv]
          by_cases hy : y.k = key
          · rw [if_pos hy, if_pos hy]
          · rw [if_neg hy, if_neg hy]; exact h3 key hkey
        · rw [if_neg hv, List.singleton_append]
          refine ⟨List.pairwise_cons.2 ⟨low, h1⟩, fun c hc => ?_, fun key hkey => ?_⟩
          · rcases List.mem_cons.1 hc with rfl | hc
            · exact ⟨by simp [look_cons], by simp [look_cons, he], by simpa using hv⟩
            · exact lift c hc
          · have hn := hkey ⟨x.k, some x.v, some y.v⟩ (by simp)
            rw [look_cons, look_cons, if_neg hn, if_neg (by rw [← he]; exact hn)]
            exact h3 key (fun c hc => hkey c (by simp [hc]))
termination_by k l => k.length + l.length
theorem look_mem {b : BT} (h : SP b) (k v : ByteArray) : look k (prsV b) = some v ↔ (⟨k, v⟩ : Pr) ∈ prsV b := by
  unfold look
  cases hf : (prsV b).find? (fun p => decide (p.k = k)) with
  | none =>
    rw [List.find?_eq_none] at hf
    simp only [Option.map_none, reduceCtorEq, false_iff]
    intro hm; exact hf _ hm (by simp)
  | some p =>
    have h1 := List.mem_of_find?_eq_some hf
    have h2 := List.find?_some hf
    simp only [decide_eq_true_eq] at h2
    simp only [Option.map_some, Option.some.injEq]
    constructor
    · rintro rfl; rw [← h2]; exact h1
    · intro hm
      have := key_eq h h1 hm h2
      rw [this]
/-- One change made. -/
def stepC (m : BT) (c : Chg) : BT := match c.n with | some v => putV c.k v m | none => woV c.k m
/-- The changes made one after the other. -/
theorem steps_spec {a b : BT} (ha : OK a) (hb : OK b) : ∀ (i : Nat), i ≤ (diffV (prsV a) (prsV b)).length →
    OK (((diffV (prsV a) (prsV b)).take i).foldl stepC a) ∧ ∀ p, p ∈ prsV (((diffV (prsV a) (prsV b)).take i).foldl stepC a) ↔
      (if ∃ c ∈ (diffV (prsV a) (prsV b)).take i, c.k = p.k then p ∈ prsV b else p ∈ prsV a) := by
  obtain ⟨d1, d2, d3⟩ := diff_spec (prsV a) (prsV b) ((asc_sp a).2 ha.1) ((asc_sp b).2 hb.1)
  obtain ⟨D, hD⟩ : ∃ D, diffV (prsV a) (prsV b) = D := ⟨_, rfl⟩
  rw [hD] at d1 d2 d3 ⊢
  intro i
  induction i with
  | zero => exact fun _ => ⟨by simpa using ha, fun p => by simp⟩
  | succ i ih =>
    intro hi
    obtain ⟨ih1, ih2⟩ := ih (by omega)
    obtain ⟨c, hc⟩ : ∃ c, D[i]? = some c := ⟨D[i], List.getElem?_eq_getElem (by omega)⟩
    have ht : D.take (i + 1) = D.take i ++ [c] := by rw [List.take_add_one, hc]; rfl
    have hcm : c ∈ D := List.mem_of_getElem? hc
    have hnew : ∀ e ∈ D.take i, e.k ≠ c.k := fun e he => by
      have h9 : (D.take i ++ [c]).Pairwise (fun c d => klt c.k d.k = true) := by rw [← ht]; exact d1.sublist (List.take_sublist _ _)
      exact klt_ne ((List.pairwise_append.1 h9).2.2 e he c (by simp))
    obtain ⟨e1, e2, e3⟩ := d2 c hcm
    rw [ht, List.foldl_append, List.foldl_cons, List.foldl_nil]
    have split : ∀ p : Pr, (∃ e ∈ D.take i ++ [c], e.k = p.k) ↔ (∃ e ∈ D.take i, e.k = p.k) ∨ c.k = p.k := fun p => by
      constructor
      · rintro ⟨e, he, h⟩
        rcases List.mem_append.1 he with he | he
        · exact .inl ⟨e, he, h⟩
        · simp at he; subst he; exact .inr h
      · rintro (⟨e, he, h⟩ | h)
        · exact ⟨e, by simp [he], h⟩
        · exact ⟨c, by simp, h⟩
    obtain ⟨M, hM⟩ : ∃ M, (D.take i).foldl stepC a = M := ⟨_, rfl⟩
    rw [hM] at ih1 ih2 ⊢
    unfold stepC
    cases hn : c.n with
    | some v =>
      rw [hn] at e2
      have hbm := (look_mem hb.1 c.k v).1 e2.symm
      have hlg : lgB c.k v = false := hb.2.2 _ hbm
      obtain ⟨g1, g2, g3⟩ := put_spec c.k v M ih1.1 ih1.2.1
      refine ⟨ok_put ih1 hlg, fun p => ?_⟩
      show p ∈ prsV (putV c.k v M) ↔ _
      rw [g3, ih2]
      by_cases hp : c.k = p.k
      · rw [if_pos ((split p).2 (.inr hp))]
        constructor
        · rintro (rfl | ⟨_, h⟩)
          · exact hbm
          · exact absurd hp.symm h
        · intro h
          left
          exact key_eq hb.1 h hbm hp.symm
      · have hs : (∃ e ∈ D.take i ++ [c], e.k = p.k) ↔ ∃ e ∈ D.take i, e.k = p.k := by rw [split]; simp [hp]
        simp only [hs]
        constructor
        · rintro (rfl | ⟨h, _⟩)
          · exact absurd rfl hp
          · exact h
        · exact fun h => .inr ⟨h, fun e => hp e.symm⟩
    | none =>
      rw [hn] at e2
      obtain ⟨g1, g2, g3⟩ := wo_spec c.k M ih1.1 ih1.2.1
      refine ⟨ok_wo ih1, fun p => ?_⟩
      show p ∈ prsV (woV c.k M) ↔ _
      rw [g3, ih2]
      by_cases hp : c.k = p.k
      · rw [if_pos ((split p).2 (.inr hp))]
        constructor
        · rintro ⟨_, h⟩; exact absurd hp.symm h
        · intro h
          have hh := (look_mem hb.1 c.k p.v).2 (by rw [hp]; exact h)
          rw [← e2] at hh; cases hh
      · have hs : (∃ e ∈ D.take i ++ [c], e.k = p.k) ↔ ∃ e ∈ D.take i, e.k = p.k := by rw [split]; simp [hp]
        simp only [hs]
        exact ⟨fun h => h.1, fun h => ⟨h, fun e => hp e.symm⟩⟩
theorem steps_end {a b : BT} (ha : OK a) (hb : OK b) : (diffV (prsV a) (prsV b)).foldl stepC a = b := by
  obtain ⟨h1, h2⟩ := steps_spec ha hb _ (Nat.le_refl _)
  rw [List.take_length] at h1 h2
  obtain ⟨d1, d2, d3⟩ := diff_spec (prsV a) (prsV b) ((asc_sp a).2 ha.1) ((asc_sp b).2 hb.1)
  refine ok_uniq h1 hb fun p => ?_
  rw [h2]
  by_cases hp : ∃ c ∈ diffV (prsV a) (prsV b), c.k = p.k
  · rw [if_pos hp]
  · rw [if_neg hp]
    have := d3 p.k (fun c hc e => hp ⟨c, hc, e⟩)
    have e1 := look_mem ha.1 p.k p.v
    have e2 := look_mem hb.1 p.k p.v
    rw [this] at e1
    exact e1.symm.trans e2
/-- A key that is taken away is there. -/
theorem step_there {a b : BT} (ha : OK a) (hb : OK b) {i : Nat} {c : Chg} (hc : (diffV (prsV a) (prsV b))[i]? = some c) (hn : c.n = none) : findV c.k (((diffV (prsV a) (prsV b)).take i).foldl stepC a) ≠ none := by
  have hi : i < (diffV (prsV a) (prsV b)).length := by rcases Nat.lt_or_ge i (diffV (prsV a) (prsV b)).length with h | h; exact h; rw [List.getElem?_eq_none h] at hc; cases hc
  obtain ⟨h1, h2⟩ := steps_spec ha hb i (by omega)
  obtain ⟨d1, d2, d3⟩ := diff_spec (prsV a) (prsV b) ((asc_sp a).2 ha.1) ((asc_sp b).2 hb.1)
  obtain ⟨e1, e2, e3⟩ := d2 c (List.mem_of_getElem? hc)
  cases ho : c.o with
  | none => rw [ho, hn] at e3; exact absurd rfl e3
  | some v =>
    rw [ho] at e1
    have hm := (look_mem ha.1 c.k v).1 e1.symm
    have hin : (⟨c.k, v⟩ : Pr) ∈ prsV (((diffV (prsV a) (prsV b)).take i).foldl stepC a) := by
      rw [h2, if_neg]
      · exact hm
      · rintro ⟨e, he, hk⟩
        have ht : (diffV (prsV a) (prsV b)).take (i + 1) = (diffV (prsV a) (prsV b)).take i ++ [c] := by rw [List.take_add_one, hc]; rfl
        have h9 : ((diffV (prsV a) (prsV b)).take i ++ [c]).Pairwise (fun c d => klt c.k d.k = true) := by rw [← ht]; exact d1.sublist (List.take_sublist _ _)
        exact klt_ne ((List.pairwise_append.1 h9).2.2 e he c (by simp)) hk
    intro hf
    exact (find_none h1.1 c.k).1 hf _ hin rfl
theorem steps_size (a : BT) : ∀ l : List Chg, (l.foldl stepC a).size ≤ a.size + l.length := by
  intro l
  induction l generalizing a with
  | nil => simp
  | cons c l ih =>
    have h1 := ih (stepC a c)
    have h2 : (stepC a c).size ≤ a.size + 1 := by
      unfold stepC
      cases c.n with
      | some v => exact put_size _ _ _
      | none => exact Nat.le_trans (wo_size _ _) (by omega)
    rw [List.foldl_cons, List.length_cons]; omega
theorem diff_len : ∀ k l : List Pr, (diffV k l).length ≤ k.length + l.length
  | [], [] => by simp [diffV]
  | x :: k, [] => by rw [diffV]; have := diff_len k []; simp at this ⊢; omega
  | [], y :: l => by rw [diffV]; have := diff_len [] l; simp at this ⊢; omega
  | x :: k, y :: l => by
    rw [diffV]
    have h1 := diff_len k (y :: l); have h2 := diff_len (x :: k) l; have h3 := diff_len k l
    simp only [List.length_cons] at h1 h2 ⊢
    split
    · simp; omega
    · split
      · simp; omega
      · split <;> simp <;> omega
termination_by k l => k.length + l.length
end Go.Proofs.Ytbjniaihkllmdaa

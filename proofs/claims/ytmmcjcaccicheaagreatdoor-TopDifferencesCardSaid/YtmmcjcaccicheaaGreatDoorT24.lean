/- UdLaw1 UdLaw2 UdLaw3: parts of the proof of TopDifferences, one text behind the other. No condition. -/
import Derived.Test.YtmmcjcaccicheaaGreatDoorT23
import Derived.Test.YtmmcjcaccicheaaGreatDoorT08
/- The blocks of hunks: plain law. No condition. -/
namespace Go.Proofs.YtmmcjcaccicheaaGreatDoor
/-! ### Groups of segments -/
def grpG (c : Nat) : List Sg → List Sg → List (List Sg)
  | _, [] => []
  | acc, [s] => [acc ++ [s]]
  | acc, s :: s2 :: r => if s2.k.length ≤ 2 * c then grpG c (acc ++ [s]) (s2 :: r) else (acc ++ [s]) :: grpG c [] (s2 :: r)
def hksGs (x : Nat) : List (List Sg) → List (List Hp)
  | [] => []
  | g :: r => hksG x g :: hksGs (x + (oldG g).length) r
theorem hksG_app (x : Nat) : ∀ (a b : List Sg), hksG x (a ++ b) = hksG x a ++ hksG (x + (oldG a).length) b
  | [], b => by simp [hksG, oldG]
  | s :: a, b => by
    have ih := hksG_app (x + s.k.length + s.o.length) a b
    simp only [List.cons_append, hksG, oldG, List.length_append]
    rw [ih]
    simp only [Nat.add_assoc]
theorem grp_hks (c : Nat) : ∀ (segs acc : List Sg) (x : Nat), grpV c (hksG x acc) (hksG (x + (oldG acc).length) segs) = hksGs x (grpG c acc segs)
  | [], acc, x => by simp [hksG, grpV, grpG, hksGs]
  | [s], acc, x => by
    simp only [hksG, grpV, grpG, hksGs]
    rw [hksG_app]; rfl
  | s :: s2 :: r, acc, x => by
    have h1 : hksG x acc ++ [⟨x + (oldG acc).length + s.k.length, s.o, s.n⟩] = hksG x (acc ++ [s]) := by rw [hksG_app]; rfl
    have h2 : (oldG (acc ++ [s])).length = (oldG acc).length + s.k.length + s.o.length := by rw [oldG_app]; simp [oldG]; omega
    have e2 : x + (oldG acc).length + s.k.length + s.o.length = x + (oldG (acc ++ [s])).length := by omega
    have i1 := grp_hks c (s2 :: r) (acc ++ [s]) x
    have i2 := grp_hks c (s2 :: r) [] (x + (oldG (acc ++ [s])).length)
    simp only [hksG, grpV, grpG] at i1 i2 ⊢
    have e3 : x + (oldG acc).length + s.k.length + s.o.length + s2.k.length - (x + (oldG acc).length + s.k.length) - s.o.length = s2.k.length := by omega
    rw [e3, h1, e2]
    by_cases hc : s2.k.length ≤ 2 * c
    · rw [if_pos hc, if_pos hc]; exact i1
    · rw [if_neg hc, if_neg hc, hksGs]
      simp only [oldG, List.length_nil, Nat.add_zero] at i2
      rw [i2]
/-- Each group has a member; the first of each but the first group has more than 2 * c lines ahead. -/
def gOk (c : Nat) : List (List Sg) → Prop
  | [] => True
  | g :: r => g ≠ [] ∧ (∀ z ∈ r, ∃ s m, z = s :: m ∧ 2 * c < s.k.length) ∧ gOk c r
theorem grp_flat (c : Nat) : ∀ (segs acc : List Sg), segs ≠ [] → (grpG c acc segs).flatten = acc ++ segs
  | [], _, h => absurd rfl h
  | [s], acc, _ => by simp [grpG]
  | s :: s2 :: r, acc, _ => by
    have i1 := grp_flat c (s2 :: r) (acc ++ [s]) (by simp)
    have i2 := grp_flat c (s2 :: r) [] (by simp)
    unfold grpG
    split
    · rw [i1]; simp
    · rw [List.flatten_cons, i2]; simp
theorem grp_heads (c : Nat) : ∀ (segs acc : List Sg), (acc = [] → ∀ s r, segs = s :: r → 2 * c < s.k.length) → (acc ≠ [] → ∃ s m, acc = s :: m ∧ 2 * c < s.k.length) → ∀ z ∈ grpG c acc segs, ∃ s m, z = s :: m ∧ 2 * c < s.k.length
  | [], acc, _, _ => by simp [grpG]
  | [s], acc, h1, h2 => by
    intro z hz
    obtain rfl : z = acc ++ [s] := by simpa [grpG] using hz
    cases acc with
    | nil => exact ⟨s, [], rfl, h1 rfl s [] rfl⟩
    | cons y m => obtain ⟨s', m', e, hl⟩ := h2 (by simp); cases e; exact ⟨y, m ++ [s], rfl, hl⟩
  | s :: s2 :: r, acc, h1, h2 => by
    have hacc : ∃ s' m, acc ++ [s] = s' :: m ∧ 2 * c < s'.k.length := by
      cases acc with
      | nil => exact ⟨s, [], rfl, h1 rfl s _ rfl⟩
      | cons y m => obtain ⟨s', m', e, hl⟩ := h2 (by simp); cases e; exact ⟨y, m ++ [s], rfl, hl⟩
    intro z hz
    unfold grpG at hz
    split at hz
    · exact grp_heads c (s2 :: r) (acc ++ [s]) (fun e => by simp at e) (fun _ => hacc) z hz
    · rename_i hk
      rcases List.mem_cons.1 hz with rfl | hz
      · exact hacc
      · exact grp_heads c (s2 :: r) [] (fun _ s' r' e => by cases e; omega) (fun e => absurd rfl e) z hz
theorem gOk_of (c : Nat) : ∀ gs : List (List Sg), (∀ z ∈ gs, ∃ s m, z = s :: m ∧ 2 * c < s.k.length) → gOk c gs
  | [], _ => trivial
  | g :: r, h => ⟨by obtain ⟨s, m, e, _⟩ := h g List.mem_cons_self; rw [e]; simp, fun z hz => h z (List.mem_cons_of_mem _ hz), gOk_of c r (fun z hz => h z (List.mem_cons_of_mem _ hz))⟩
theorem grp_ok (c : Nat) : ∀ (segs acc : List Sg), gOk c (grpG c acc segs)
  | [], _ => trivial
  | [s], acc => ⟨by simp, by simp, trivial⟩
  | s :: s2 :: r, acc => by
    unfold grpG
    split
    · exact grp_ok c (s2 :: r) (acc ++ [s])
    · rename_i hk
      have hh := grp_heads c (s2 :: r) [] (fun _ s' r' e => by cases e; omega) (fun e => absurd rfl e)
      exact ⟨by simp, hh, gOk_of c _ hh⟩

/-! ### The block of a group -/
def midB : List Sg → Bdy
  | [] => []
  | s :: r => tg .ctx s.k ++ tg .del s.o ++ tg .add s.n ++ midB r
theorem oldB_mid (m : List Sg) : oldB (midB m) = oldG m := by
  induction m with
  | nil => rfl
  | cons s r ih => simp only [midB, oldB_app, oldB_ctx, oldB_del, oldB_add, oldG, ih, List.append_nil]
theorem newB_mid (m : List Sg) : newB (midB m) = newG m := by
  induction m with
  | nil => rfl
  | cons s r ih => simp only [midB, newB_app, newB_ctx, newB_del, newB_add, newG, ih, List.append_nil]
theorem slice_of {P K R : Lns} {x n : Nat} (hx : x = P.length) (hn : n = K.length) : ((P ++ K ++ R).drop x).take n = K := by
  subst hx hn
  rw [List.append_assoc, List.drop_left, List.take_left]
theorem body_mid (a : Lns) (e : Nat) : ∀ (m : List Sg) (P R : Lns) (i : Nat), a = P ++ oldG m ++ R → i ≤ R.length → e = P.length + (oldG m).length + i → bodyV a e P.length (hksG P.length m) = midB m ++ tg .ctx (R.take i)
  | [], P, R, i, ha, hi, he => by
    subst ha
    simp only [hksG, bodyV, midB, oldG, List.append_nil, List.nil_append, List.length_nil] at *
    rw [List.drop_left, show e - P.length = i by omega]
  | s :: m, P, R, i, ha, hi, he => by
    have ih := body_mid a e m (P ++ s.k ++ s.o) R i (by rw [ha, oldG]; simp) hi (by rw [he, oldG]; simp; omega)
    simp only [List.length_append] at ih
    simp only [hksG, bodyV, midB]
    have h1 : (a.drop P.length).take (P.length + s.k.length - P.length) = s.k := by
      rw [ha, oldG, show P ++ (s.k ++ s.o ++ oldG m) ++ R = P ++ s.k ++ (s.o ++ oldG m ++ R) by simp]
      exact slice_of rfl (by omega)
    rw [h1, ih]
    simp
theorem body_first (a : Lns) (e j : Nat) (s : Sg) (m : List Sg) (P R : Lns) (i : Nat) (hj : j ≤ s.k.length) (ha : a = P ++ oldG (s :: m) ++ R) (hi : i ≤ R.length) (he : e = P.length + (oldG (s :: m)).length + i) :
    bodyV a e (P.length + j) (hksG P.length (s :: m)) = tg .ctx (s.k.drop j) ++ tg .del s.o ++ tg .add s.n ++ midB m ++ tg .ctx (R.take i) := by
  have ih := body_mid a e m (P ++ s.k ++ s.o) R i (by rw [ha, oldG]; simp) hi (by rw [he, oldG]; simp; omega)
  simp only [List.length_append] at ih
  simp only [hksG, bodyV]
  have h1 : (a.drop (P.length + j)).take (P.length + s.k.length - (P.length + j)) = s.k.drop j := by
    have : a = (P ++ s.k.take j) ++ s.k.drop j ++ (s.o ++ oldG m ++ R) := by
      rw [ha, oldG]
      conv => lhs; rw [← List.take_append_drop j s.k]
      simp
    rw [this]
    exact slice_of (by simp; omega) (by simp; omega)
  rw [h1, ih]
  simp
theorem lastE_hks : ∀ (m : List Sg) (x e0 : Nat), m ≠ [] → lastE e0 (hksG x m) = x + (oldG m).length
  | [], _, _, h => absurd rfl h
  | [s], x, e0, _ => by simp [hksG, lastE, oldG]; omega
  | s :: s2 :: r, x, e0, _ => by
    have ih := lastE_hks (s2 :: r) (x + s.k.length + s.o.length) (x + s.k.length + s.o.length) (by simp)
    rw [hksG, lastE, ih]
    conv => rhs; rw [oldG]
    simp only [List.length_append]; omega
theorem sumD_hks : ∀ (m : List Sg) (x : Nat), sumD (hksG x m) = ((newG m).length : Int) - (oldG m).length
  | [], _ => by simp [hksG, sumD, newG, oldG]
  | s :: r, x => by
    rw [hksG, sumD, sumD_hks r]
    simp only [newG, oldG, List.length_append]; omega
theorem hksG_ne {x : Nat} {m : List Sg} (h : m ≠ []) : hksG x m ≠ [] := by
  cases m with
  | nil => exact absurd rfl h
  | cons s r => simp [hksG]
theorem flat_cons (s : Sg) (m : List Sg) (gs : List (List Sg)) : ((s :: m) :: gs).flatten = (s :: m) ++ gs.flatten := rfl
theorem okG_app {a b : List Sg} (h : okG (a ++ b)) : okG b := by
  induction a with
  | nil => exact h
  | cons s r ih => exact ih h.2.2
theorem okG_head {s : Sg} {m r : List Sg} (h : okG ((s :: m) ++ r)) : s.o.length + s.n.length ≠ 0 := h.1
theorem chg_of {s : Sg} (h : s.o.length + s.n.length ≠ 0) (k m t : Bdy) : chg (k ++ tg .del s.o ++ tg .add s.n ++ m ++ t) := by
  rcases hs : s.o with _ | ⟨x, r⟩
  · rcases hn : s.n with _ | ⟨y, r⟩
    · rw [hs, hn] at h; simp at h
    · exact ⟨⟨.add, y⟩, by simp [tg], by simp⟩
  · exact ⟨⟨.del, x⟩, by simp [tg], by simp⟩

/-- The blocks of the groups. -/
theorem blks_of (c : Nat) : ∀ (gs : List (List Sg)) (a b P Q t : Lns) (u : Nat), gOk c gs → okG gs.flatten → a = P ++ oldG gs.flatten ++ t → b = Q ++ newG gs.flatten ++ t →
    (u = 0 ∧ P = [] ∨ u = c ∧ ∀ z ∈ gs, ∃ s m, z = s :: m ∧ 2 * c < s.k.length) →
    ∃ (L : List GB) (t' : Lns), blksV a c ((Q.length : Int) - P.length) (hksGs P.length gs) = bksS (P.length + u) (Q.length + u) L ∧ (oldG gs.flatten ++ t).drop u = oldS L ++ t' ∧ (newG gs.flatten ++ t).drop u = newS L ++ t' ∧ okS L ∧
      ((∀ z ∈ gs, ∃ s m, z = s :: m ∧ 2 * c < s.k.length) → u = c → ∀ z ∈ L, 0 < z.1.length)
  | [], a, b, P, Q, t, u, _, _, _, _, _ => ⟨[], t.drop u, rfl, by simp [oldG, oldS], by simp [newG, newS], trivial, fun _ _ => by simp⟩
  | g :: gs, a, b, P, Q, t, u, hg, hok, ha, hb, hu => by
    obtain ⟨hg1, hg2, hg3⟩ := hg
    cases g with
    | nil => exact absurd rfl hg1
    | cons s m =>
      rw [flat_cons] at hok ha hb
      rw [oldG_app] at ha
      rw [newG_app] at hb
      obtain ⟨L, t', i1, i2, i3, i4, i5⟩ := blks_of c gs a b (P ++ oldG (s :: m)) (Q ++ newG (s :: m)) t c hg3 (okG_app hok) (by rw [ha]; simp) (by rw [hb]; simp) (.inr ⟨rfl, hg2⟩)
      have i5 := i5 hg2 rfl
      -- how many lines of the first gap go
      have hat : P.length + s.k.length - c = P.length + (s.k.length - c) := by
        rcases hu with ⟨_, rfl⟩ | ⟨_, hz⟩
        · simp
        · obtain ⟨s', m', e, hl⟩ := hz _ List.mem_cons_self
          cases e; omega
      have huk : u ≤ s.k.length - c := by
        rcases hu with ⟨rfl, _⟩ | ⟨rfl, hz⟩
        · omega
        · obtain ⟨s', m', e, hl⟩ := hz _ List.mem_cons_self
          cases e; omega
      obtain ⟨j, hj⟩ : ∃ j, s.k.length - c = j := ⟨_, rfl⟩
      rw [hj] at hat huk
      have hjk : j ≤ s.k.length := by omega
      obtain ⟨R, hR⟩ : ∃ R, oldG gs.flatten ++ t = R := ⟨_, rfl⟩
      obtain ⟨R', hR'⟩ : ∃ R', newG gs.flatten ++ t = R' := ⟨_, rfl⟩
      have ha' : a = P ++ oldG (s :: m) ++ R := by rw [ha, ← hR]; simp
      have htake : R.take c = R'.take c := by
        cases gs with
        | nil => rw [← hR, ← hR']; rfl
        | cons g2 gs2 =>
          obtain ⟨s2, m2, e2, hl2⟩ := hg2 _ List.mem_cons_self
          subst e2
          rw [← hR, ← hR', flat_cons]
          simp only [List.cons_append, oldG, newG, List.append_assoc]
          rw [List.take_append_of_le_length (by omega), List.take_append_of_le_length (by omega)]
      have he : min a.length (lastE 0 (hksG P.length (s :: m)) + c) = P.length + (oldG (s :: m)).length + min c R.length := by
        rw [lastE_hks _ _ _ (by simp), ha']
        simp only [List.length_append]; omega
      have hi : min c R.length ≤ R.length := Nat.min_le_right _ _
      have hbody := body_first a _ j s m P R (min c R.length) hjk ha' hi he
      have htk : R.take (min c R.length) = R.take c := by rw [List.take_eq_take_iff]; omega
      rw [htk] at hbody
      obtain ⟨B, hB⟩ : ∃ B, tg .ctx (s.k.drop j) ++ tg .del s.o ++ tg .add s.n ++ midB m ++ tg .ctx (R.take c) = B := ⟨_, rfl⟩
      rw [hB] at hbody
      have hoB : oldB B = s.k.drop j ++ s.o ++ oldG m ++ R.take c := by
        rw [← hB]; simp only [oldB_app, oldB_ctx, oldB_del, oldB_add, oldB_mid, List.append_nil]
      have hnB : newB B = s.k.drop j ++ s.n ++ newG m ++ R.take c := by
        rw [← hB]; simp only [newB_app, newB_ctx, newB_del, newB_add, newB_mid, List.append_nil]
      have hdo := List.take_append_drop j s.k
      refine ⟨((s.k.take j).drop u, B) :: L, t', ?_, ?_, ?_, ?_, ?_⟩
      · rw [hksGs]
        have hcons : hksG P.length (s :: m) = ⟨P.length + s.k.length, s.o, s.n⟩ :: hksG (P.length + s.k.length + s.o.length) m := rfl
        rw [hcons, blksV, bksS, ← hcons]
        congr 1
        · unfold blkV
          simp only
          rw [he] at hbody
          rw [← hcons, he, hat, hbody, sumD_hks, hoB, hnB]
          simp only [oldG, newG, List.length_append, List.length_drop, List.length_take]
          congr 1
          · omega
          · omega
          · omega
          · omega
        · rw [sumD_hks]
          rw [show ((Q.length : Int) - P.length + (((newG (s :: m)).length : Int) - (oldG (s :: m)).length)) = (((Q ++ newG (s :: m)).length : Nat) : Int) - ((P ++ oldG (s :: m)).length : Nat) by simp only [List.length_append]; omega]
          rw [show P.length + (oldG (s :: m)).length = (P ++ oldG (s :: m)).length by simp, i1]
          cases L with
          | nil => rfl
          | cons p L =>
            -- the next block is there: the gap is long enough
            have hRc : c ≤ R.length ∧ c ≤ R'.length := by
              cases gs with
              | nil => 
                simp only [hksGs, blksV, bksS] at i1
                cases i1
              | cons g2 gs2 =>
                obtain ⟨s2, m2, e2, hl2⟩ := hg2 _ List.mem_cons_self
                subst e2
                rw [← hR, ← hR', flat_cons]
                simp only [List.cons_append, oldG, newG, List.append_assoc, List.length_append]
                omega
            have e1 : P.length + u + ((s.k.take j).drop u).length + (oldB B).length = (P ++ oldG (s :: m)).length + c := by
              rw [hoB]; simp only [oldG, List.length_append, List.length_drop, List.length_take]; omega
            have e2 : Q.length + u + ((s.k.take j).drop u).length + (newB B).length = (Q ++ newG (s :: m)).length + c := by
              rw [hnB]; simp only [newG, List.length_append, List.length_drop, List.length_take]; omega
            show bksS _ _ (p :: L) = bksS _ _ (p :: L)
            rw [show P.length + u + ((s.k.take j).drop u, B).1.length + (oldB ((s.k.take j).drop u, B).2).length = P.length + u + ((s.k.take j).drop u).length + (oldB B).length from rfl, e1]
            rw [show Q.length + u + ((s.k.take j).drop u, B).1.length + (newB ((s.k.take j).drop u, B).2).length = Q.length + u + ((s.k.take j).drop u).length + (newB B).length from rfl, e2]
      · rw [flat_cons, oldG_app, List.append_assoc, hR, oldS]
        simp only [hoB]
        rw [hR] at i2
        rw [List.append_assoc _ (oldS L) t', ← i2]
        simp only [oldG]
        rw [show s.k ++ s.o ++ oldG m ++ R = s.k.take j ++ (s.k.drop j ++ s.o ++ oldG m ++ R.take c ++ R.drop c) by
          rw [List.append_assoc _ (R.take c), List.take_append_drop]
          have := congrArg (· ++ (s.o ++ (oldG m ++ R))) hdo
          simp only [List.append_assoc] at this ⊢
          exact this.symm]
        rw [List.drop_append_of_le_length (by simp; omega)]
        simp
      · rw [flat_cons, newG_app, List.append_assoc, hR', newS]
        simp only [hnB]
        rw [hR'] at i3
        rw [List.append_assoc _ (newS L) t', ← i3, htake]
        simp only [newG]
        rw [show s.k ++ s.n ++ newG m ++ R' = s.k.take j ++ (s.k.drop j ++ s.n ++ newG m ++ R'.take c ++ R'.drop c) by
          rw [List.append_assoc _ (R'.take c), List.take_append_drop]
          have := congrArg (· ++ (s.n ++ (newG m ++ R'))) hdo
          simp only [List.append_assoc] at this ⊢
          exact this.symm]
        rw [List.drop_append_of_le_length (by simp; omega)]
        simp
      · exact ⟨hB ▸ chg_of (okG_head hok) _ _ _, i5, i4⟩
      · intro hz hc z hzz
        rcases List.mem_cons.1 hzz with rfl | hzz
        · obtain ⟨s', m', e, hl⟩ := hz _ List.mem_cons_self
          cases e
          simp only [List.length_drop, List.length_take]; omega
        · exact i5 z hzz
/-- What Blocks yields. -/
theorem blks_law (c : Nat) (segs : List Sg) (t : Lns) (hok : okG segs) :
    ∃ (L : List GB) (t' : Lns), blksV (oldG segs ++ t) c 0 (grpV c [] (hksG 0 segs)) = bksS 0 0 L ∧ oldG segs ++ t = oldS L ++ t' ∧ newG segs ++ t = newS L ++ t' ∧ okS L := by
  cases segs with
  | nil => exact ⟨[], t, rfl, by simp [oldG, oldS], by simp [newG, newS], trivial⟩
  | cons s r =>
    have hf := grp_flat c (s :: r) [] (by simp)
    have hh := grp_hks c (s :: r) [] 0
    simp only [List.nil_append] at hf
    obtain ⟨L, t', h1, h2, h3, h4, _⟩ := blks_of c (grpG c [] (s :: r)) (oldG (s :: r) ++ t) (newG (s :: r) ++ t) [] [] t 0 (grp_ok c _ _) (by rw [hf]; exact hok) (by rw [hf]; rfl) (by rw [hf]; rfl) (.inl ⟨rfl, rfl⟩)
    refine ⟨L, t', ?_, ?_, ?_, h4⟩
    · simp only [oldG, List.length_nil, Nat.add_zero] at hh
      have hn : hksG 0 [] = [] := rfl
      rw [hn] at hh
      rw [hh]
      simpa using h1
    · rw [hf] at h2; simpa using h2
    · rw [hf] at h3; simpa using h3
end Go.Proofs.YtmmcjcaccicheaaGreatDoor
/- Valid blocks, the hunks of blocks, the lines of a text: plain laws. No condition. -/
namespace Go.Proofs.YtmmcjcaccicheaaGreatDoor
/-! ### Valid blocks -/
structure BkOk (sh e : Int) (b : Bk) : Prop where
  lt : e < b.oa
  na : (b.na : Int) = b.oa + sh
  ol : b.ol = (oldB b.ls).length
  nl : b.nl = (newB b.ls).length
  chg : chg b.ls
  mo : b.oa + b.ol ≤ 100000
  mn : b.na + b.nl ≤ 100000
def okKs (sh e : Int) : List Bk → Prop
  | [] => True
  | b :: r => BkOk sh e b ∧ okKs (sh + b.nl - b.ol) (b.oa + b.ol) r
theorem okKs_of : ∀ (L : List GB) (x y : Nat) (e : Int), okS L → x + (oldS L).length ≤ 100000 → y + (newS L).length ≤ 100000 → e ≤ x → (e < x ∨ ∀ z ∈ L, 0 < z.1.length) → okKs ((y : Int) - x) e (bksS x y L)
  | [], _, _, _, _, _, _, _, _ => trivial
  | p :: r, x, y, e, h, hx, hy, he, hg => by
    obtain ⟨h1, h2, h3⟩ := h
    simp only [oldS, newS, List.length_append] at hx hy
    rw [bksS, okKs]
    have hgap : e < x ∨ 0 < p.1.length := hg.imp id (fun h => h p List.mem_cons_self)
    refine ⟨⟨by simp only; omega, by simp only; omega, rfl, rfl, h1, by simp only; omega, by simp only; omega⟩, ?_⟩
    have ih := okKs_of r (x + p.1.length + (oldB p.2).length) (y + p.1.length + (newB p.2).length) (x + p.1.length + (oldB p.2).length : Nat) h3 (by omega) (by omega) (Int.le_refl _) (.inr h2)
    simp only
    rw [show (y : Int) - x + (newB p.2).length - (oldB p.2).length = ((y + p.1.length + (newB p.2).length : Nat) : Int) - (x + p.1.length + (oldB p.2).length : Nat) by omega]
    rw [show ((x + p.1.length : Nat) : Int) + (oldB p.2).length = ((x + p.1.length + (oldB p.2).length : Nat) : Int) by omega]
    exact ih

/-! ### What Hunks computes -/
def addOld (s : ByteArray) : List Hp → List Hp
  | [] => []
  | [h] => [{ h with old := h.old ++ [s] }]
  | h :: r => h :: addOld s r
def addNew (s : ByteArray) : List Hp → List Hp
  | [] => []
  | [h] => [{ h with new := h.new ++ [s] }]
  | h :: r => h :: addNew s r
theorem addOld_snoc (s : ByteArray) (h : Hp) : ∀ l : List Hp, addOld s (l ++ [h]) = l ++ [{ h with old := h.old ++ [s] }]
  | [] => rfl
  | x :: l => by
    have ih := addOld_snoc s h l
    cases l with
    | nil => rfl
    | cons y r => simp only [List.cons_append] at ih ⊢; rw [addOld, ih]; simp
theorem addNew_snoc (s : ByteArray) (h : Hp) : ∀ l : List Hp, addNew s (l ++ [h]) = l ++ [{ h with new := h.new ++ [s] }]
  | [] => rfl
  | x :: l => by
    have ih := addNew_snoc s h l
    cases l with
    | nil => rfl
    | cons y r => simp only [List.cons_append] at ih ⊢; rw [addNew, ih]; simp
structure HSt where
  out : List Hp
  at_ : Nat
  op : Bool
def HSt.opened (st : HSt) : List Hp := if st.op then st.out else st.out ++ [⟨st.at_, [], []⟩]
def hLine (st : HSt) (x : Ln) : HSt := match x.t with
  | .ctx => ⟨st.out, st.at_ + 1, false⟩
  | .del => ⟨addOld x.s st.opened, st.at_ + 1, true⟩
  | .add => ⟨addNew x.s st.opened, st.at_, true⟩
def hBlk (out : List Hp) (b : Bk) : List Hp := (b.ls.foldl hLine ⟨out, b.oa, false⟩).out
def hunksV (l : List Bk) : List Hp := l.foldl hBlk []

theorem okG_snoc : ∀ (l : List Sg) (s : Sg), okG l → s.o.length + s.n.length ≠ 0 → (l = [] ∨ 0 < s.k.length) → okG (l ++ [s])
  | [], s, _, h, _ => ⟨h, by simp, trivial⟩
  | x :: l, s, ⟨h1, h2, h3⟩, h, hk => by
    have hk' : 0 < s.k.length := hk.elim (fun e => by cases e) id
    exact ⟨h1, fun z hz => by
      rcases List.mem_append.1 hz with hz | hz
      · exact h2 z hz
      · obtain rfl := List.mem_singleton.1 hz; exact hk', okG_snoc l s h3 h (.inr hk')⟩
theorem okG_last : ∀ (l : List Sg) (s s' : Sg), okG (l ++ [s]) → s'.k = s.k → s'.o.length + s'.n.length ≠ 0 → okG (l ++ [s'])
  | [], s, s', _, _, h => ⟨h, by simp, trivial⟩
  | x :: l, s, s', ⟨h1, h2, h3⟩, hk, h => ⟨h1, fun z hz => by
      rcases List.mem_append.1 hz with hz | hz
      · exact h2 z (List.mem_append_left _ hz)
      · obtain rfl := List.mem_singleton.1 hz; rw [hk]; exact h2 s (by simp), okG_last l s s' h3 hk h⟩
/-- What holds between two lines of a block: O and N are the lines so far. -/
structure HInv (O N : Lns) (segs : List Sg) (k : Lns) (st : HSt) : Prop where
  out : st.out = hksG 0 segs
  at_ : st.at_ = O.length
  old : O = oldG segs ++ k
  new : N = newG segs ++ k
  ok : okG segs
  opn : st.op = true → k = [] ∧ segs ≠ []
  shut : st.op = false → segs = [] ∨ 0 < k.length
theorem snoc_of {α : Type} : ∀ {l : List α}, l ≠ [] → ∃ r x, l = r ++ [x]
  | [], h => absurd rfl h
  | [x], _ => ⟨[], x, rfl⟩
  | x :: y :: l, _ => by
    obtain ⟨r, z, h⟩ := snoc_of (l := y :: l) (by simp)
    exact ⟨x :: r, z, by rw [h]; rfl⟩
theorem hinv_line {O N : Lns} {segs : List Sg} {k : Lns} {st : HSt} (h : HInv O N segs k st) (x : Ln) : ∃ segs' k', HInv (O ++ oldB [x]) (N ++ newB [x]) segs' k' (hLine st x) := by
  obtain ⟨t, s⟩ := x
  cases t with
  | ctx => exact ⟨segs, k ++ [s], h.out, by simp [hLine, oldB, h.at_], by rw [h.old]; simp [oldB], by rw [h.new]; simp [newB], h.ok, fun e => (by cases e), fun _ => .inr (by simp)⟩
  | del =>
    cases ho : st.op with
    | true =>
      obtain ⟨rfl, hne⟩ := h.opn ho
      obtain ⟨r, z, rfl⟩ := snoc_of hne
      refine ⟨r ++ [⟨z.k, z.o ++ [s], z.n⟩], [], ?_, by simp [hLine, oldB, h.at_], ?_, ?_, okG_last r z _ h.ok rfl (by simp), fun _ => ⟨rfl, by simp⟩, fun e => by cases e⟩
      · simp only [hLine, HSt.opened, ho, if_true, h.out, hksG_app]
        simp only [hksG, addOld_snoc]
      · rw [h.old]; simp [oldG_app, oldG, oldB]
      · rw [h.new]; simp [newG_app, newG, newB]
    | false =>
      refine ⟨segs ++ [⟨k, [s], []⟩], [], ?_, by simp [hLine, oldB, h.at_], ?_, ?_, okG_snoc segs _ h.ok (by simp) (h.shut ho), fun _ => ⟨rfl, by simp⟩, fun e => by cases e⟩
      · simp only [hLine, HSt.opened, ho, h.out, hksG_app]
        simp only [hksG, Bool.false_eq_true, if_false, addOld_snoc, h.at_, h.old, List.length_append, Nat.zero_add, List.nil_append]
      · rw [h.old]; simp [oldG_app, oldG, oldB]
      · rw [h.new]; simp [newG_app, newG, newB]
  | add =>
    cases ho : st.op with
    | true =>
      obtain ⟨rfl, hne⟩ := h.opn ho
      obtain ⟨r, z, rfl⟩ := snoc_of hne
      refine ⟨r ++ [⟨z.k, z.o, z.n ++ [s]⟩], [], ?_, by simp [hLine, oldB, h.at_], ?_, ?_, okG_last r z _ h.ok rfl (by simp), fun _ => ⟨rfl, by simp⟩, fun e => by cases e⟩
      · simp only [hLine, HSt.opened, ho, if_true, h.out, hksG_app]
        simp only [hksG, addNew_snoc]
      · rw [h.old]; simp [oldG_app, oldG, oldB]
      · rw [h.new]; simp [newG_app, newG, newB]
    | false =>
      refine ⟨segs ++ [⟨k, [], [s]⟩], [], ?_, by simp [hLine, oldB, h.at_], ?_, ?_, okG_snoc segs _ h.ok (by simp) (h.shut ho), fun _ => ⟨rfl, by simp⟩, fun e => by cases e⟩
      · simp only [hLine, HSt.opened, ho, h.out, hksG_app]
        simp only [hksG, Bool.false_eq_true, if_false, addNew_snoc, h.at_, h.old, List.length_append, Nat.zero_add, List.nil_append]
      · rw [h.old]; simp [oldG_app, oldG, oldB]
      · rw [h.new]; simp [newG_app, newG, newB]
theorem hinv_body : ∀ (b : Bdy) {O N : Lns} {segs : List Sg} {k : Lns} {st : HSt}, HInv O N segs k st → ∃ segs' k', HInv (O ++ oldB b) (N ++ newB b) segs' k' (b.foldl hLine st)
  | [], O, N, segs, k, st, h => ⟨segs, k, by simpa [oldB, newB] using h⟩
  | x :: b, O, N, segs, k, st, h => by
    obtain ⟨s1, k1, h1⟩ := hinv_line h x
    obtain ⟨s2, k2, h2⟩ := hinv_body b h1
    refine ⟨s2, k2, ?_⟩
    rw [List.foldl_cons, show x :: b = [x] ++ b from rfl, oldB_app, newB_app, ← List.append_assoc, ← List.append_assoc]
    exact h2
theorem hinv_all : ∀ (L : List GB) {O N : Lns} {segs : List Sg} {k : Lns} {out : List Hp}, out = hksG 0 segs → O = oldG segs ++ k → N = newG segs ++ k → okG segs → okS L → (segs = [] ∨ ∀ z ∈ L, 0 < z.1.length) →
    ∃ segs' k', (bksS O.length N.length L).foldl hBlk out = hksG 0 segs' ∧ O ++ oldS L = oldG segs' ++ k' ∧ N ++ newS L = newG segs' ++ k' ∧ okG segs'
  | [], O, N, segs, k, out, h1, h2, h3, h4, _, _ => ⟨segs, k, h1, by simp [oldS, h2], by simp [newS, h3], h4⟩
  | p :: L, O, N, segs, k, out, h1, h2, h3, h4, h5, h6 => by
    obtain ⟨g1, g2, g3⟩ := h5
    have hi : HInv (O ++ p.1) (N ++ p.1) segs (k ++ p.1) ⟨out, O.length + p.1.length, false⟩ :=
      ⟨h1, by simp, by rw [h2]; simp, by rw [h3]; simp, h4, fun e => (by cases e), fun _ => h6.imp id (fun h => by have := h p List.mem_cons_self; simp; omega)⟩
    obtain ⟨s1, k1, hb⟩ := hinv_body p.2 hi
    have ih := hinv_all L (out := hBlk out ⟨O.length + p.1.length, (oldB p.2).length, N.length + p.1.length, (newB p.2).length, p.2⟩) hb.out hb.old hb.new hb.ok g3 (.inr g2)
    obtain ⟨s2, k2, i1, i2, i3, i4⟩ := ih
    refine ⟨s2, k2, ?_, by rw [← i2]; simp [oldS], by rw [← i3]; simp [newS], i4⟩
    rw [bksS, List.foldl_cons, ← i1]
    simp only [List.length_append]
/-- What Hunks yields. -/
theorem hunks_law {L : List GB} (h : okS L) (t : Lns) : ∃ segs t', hunksV (bksS 0 0 L) = hksG 0 segs ∧ oldS L ++ t = oldG segs ++ t' ∧ newS L ++ t = newG segs ++ t' ∧ okG segs := by
  obtain ⟨s, k, h1, h2, h3, h4⟩ := hinv_all L (O := []) (N := []) (segs := []) (k := []) (out := []) rfl rfl rfl trivial h (.inl rfl)
  exact ⟨s, k ++ t, h1, by rw [← List.append_assoc, ← h2]; simp, by rw [← List.append_assoc, ← h3]; simp, h4⟩

/-! ### The lines of the text, and what Parse makes of them -/
inductive Tk | hdr (b : Bk) | ln (x : Ln)
def toks : List Bk → List Tk
  | [] => []
  | b :: r => .hdr ⟨b.oa, b.ol, b.na, b.nl, []⟩ :: (b.ls.map .ln ++ toks r)
def addLn (x : Ln) : List Bk → List Bk
  | [] => []
  | [b] => [{ b with ls := b.ls ++ [x] }]
  | b :: r => b :: addLn x r
theorem addLn_snoc (x : Ln) (b : Bk) : ∀ l : List Bk, addLn x (l ++ [b]) = l ++ [{ b with ls := b.ls ++ [x] }]
  | [] => rfl
  | y :: l => by
    have ih := addLn_snoc x b l
    cases l with
    | nil => rfl
    | cons z r => simp only [List.cons_append] at ih ⊢; rw [addLn, ih]; simp
structure PSt where
  out : List Bk
  bef : Nat
  aft : Nat
def oN (x : Ln) : Nat := (oldB [x]).length
def nN (x : Ln) : Nat := (newB [x]).length
/-- One line read. -/
inductive PStep : PSt → Tk → PSt → Prop
  | hdr (st : PSt) (b : Bk) (h1 : st.bef + st.aft = 0) (h2 : b.ls = []) : PStep st (.hdr b) ⟨st.out ++ [b], b.ol, b.nl⟩
  | ln (out : List Bk) (b : Bk) (bef aft : Nat) (x : Ln) (h1 : bef + aft ≠ 0) (h2 : oN x ≤ bef) (h3 : nN x ≤ aft) : PStep ⟨out ++ [b], bef, aft⟩ (.ln x) ⟨out ++ [{ b with ls := b.ls ++ [x] }], bef - oN x, aft - nN x⟩
inductive PRun : PSt → List Tk → PSt → Prop
  | nil (st : PSt) : PRun st [] st
  | cons {s1 s2 s3 : PSt} {x : Tk} {l : List Tk} : PStep s1 x s2 → PRun s2 l s3 → PRun s1 (x :: l) s3
theorem PRun.app {a b c : PSt} {l m : List Tk} (h : PRun a l b) (k : PRun b m c) : PRun a (l ++ m) c := by
  induction h with
  | nil => exact k
  | cons h1 _ ih => exact .cons h1 (ih k)
theorem PRun.split : ∀ {l m : List Tk} {a c : PSt}, PRun a (l ++ m) c → ∃ b, PRun a l b ∧ PRun b m c
  | [], m, a, c, h => ⟨a, .nil a, h⟩
  | x :: l, m, a, c, h => by
    cases h with
    | cons h1 h2 =>
      obtain ⟨b, h3, h4⟩ := PRun.split h2
      exact ⟨b, .cons h1 h3, h4⟩
theorem oN_cons (x : Ln) (r : Bdy) : (oldB (x :: r)).length = oN x + (oldB r).length := by rw [show x :: r = [x] ++ r from rfl, oldB_app, List.length_append]; rfl
theorem nN_cons (x : Ln) (r : Bdy) : (newB (x :: r)).length = nN x + (newB r).length := by rw [show x :: r = [x] ++ r from rfl, newB_app, List.length_append]; rfl
theorem on_pos (x : Ln) : 0 < oN x + nN x := by
  obtain ⟨t, s⟩ := x
  cases t <;> simp [oN, nN, oldB, newB]
theorem run_body : ∀ (l : Bdy) (out : List Bk) (b : Bk) (bef aft : Nat), bef = (oldB l).length → aft = (newB l).length → PRun ⟨out ++ [b], bef, aft⟩ (l.map .ln) ⟨out ++ [{ b with ls := b.ls ++ l }], 0, 0⟩
  | [], out, b, bef, aft, h1, h2 => by subst h1 h2; simp only [oldB, newB, List.length_nil, List.map_nil, List.append_nil]; exact .nil _
  | x :: l, out, b, bef, aft, h1, h2 => by
    rw [oN_cons] at h1
    rw [nN_cons] at h2
    have hp := on_pos x
    have ih := run_body l out { b with ls := b.ls ++ [x] } (bef - oN x) (aft - nN x) (by omega) (by omega)
    rw [List.map_cons]
    refine .cons (.ln out b bef aft x (by omega) (by omega) (by omega)) ?_
    simp only [List.append_assoc, List.singleton_append] at ih
    exact ih
theorem run_toks : ∀ (l : List Bk) (out : List Bk), (∀ b ∈ l, b.ol = (oldB b.ls).length ∧ b.nl = (newB b.ls).length) → PRun ⟨out, 0, 0⟩ (toks l) ⟨out ++ l, 0, 0⟩
  | [], out, _ => by simp only [toks, List.append_nil]; exact .nil _
  | b :: r, out, h => by
    have hb := h b List.mem_cons_self
    have ih := run_toks r (out ++ [b]) (fun z hz => h z (List.mem_cons_of_mem _ hz))
    rw [toks]
    refine .cons (.hdr _ _ rfl rfl) (PRun.app (run_body b.ls out _ _ _ hb.1 hb.2) ?_)
    simpa using ih
theorem okKs_len : ∀ (l : List Bk) (sh e : Int), okKs sh e l → ∀ b ∈ l, b.ol = (oldB b.ls).length ∧ b.nl = (newB b.ls).length
  | [], _, _, _, b, hb => by simp at hb
  | x :: r, sh, e, ⟨h1, h2⟩, b, hb => by
    rcases List.mem_cons.1 hb with rfl | hb
    · exact ⟨h1.ol, h1.nl⟩
    · exact okKs_len r _ _ h2 b hb
end Go.Proofs.YtmmcjcaccicheaaGreatDoor
/- The hunks of a matching, the hunks that lead back: plain laws. No condition. -/
namespace Go.Proofs.YtmmcjcaccicheaaGreatDoor
/-! ### The hunks of a matching -/
def ofV (a b : Lns) : Int → Int → List Mt → List Hp
  | _, _, [] => []
  | x, y, m :: r => (if x < m.a ∨ y < m.b then [⟨x.toNat, (a.drop x.toNat).take (m.a - x).toNat, (b.drop y.toNat).take (m.b - y).toNat⟩] else []) ++ ofV a b (m.a + m.n) (m.b + m.n) r
def kG : List Sg → Nat
  | [] => 0
  | s :: r => s.k.length + kG r
def sizeG : List Sg → Nat
  | [] => 0
  | s :: r => s.o.length + s.n.length + sizeG r
theorem kG_snoc (s : Sg) : ∀ l, kG (l ++ [s]) = kG l + s.k.length
  | [] => by simp [kG]
  | x :: l => by simp only [List.cons_append, kG, kG_snoc s l]; omega
theorem size_len : ∀ l : List Sg, (oldG l).length + (newG l).length = sizeG l + 2 * kG l
  | [] => rfl
  | s :: l => by
    have := size_len l
    simp only [oldG, newG, sizeG, kG, List.length_append]; omega
theorem take_more {a : Lns} {x y : Nat} (h : x ≤ y) : a.take y = a.take x ++ (a.drop x).take (y - x) := by
  conv => lhs; rw [show y = x + (y - x) by omega, List.take_add]
theorem of_from {a b : Lns} : ∀ (ms : List Mt) (x y : Int) (X Y : Nat) (segs : List Sg) (k : Lns), checkV a b x y ms = 0 → (x = X ∧ y = Y ∨ x = -1 ∧ y = -1 ∧ X = 0 ∧ Y = 0) → X ≤ a.length → Y ≤ b.length →
    a.take X = oldG segs ++ k → b.take Y = newG segs ++ k → okG segs → (segs = [] ∨ 0 < k.length) →
    ∃ segs' t, hksG 0 segs ++ ofV a b X Y (ms ++ [⟨a.length, b.length, 0⟩]) = hksG 0 segs' ∧ a = oldG segs' ++ t ∧ b = newG segs' ++ t ∧ okG segs' ∧ ((kG segs' + t.length : Nat) : Int) = (kG segs + k.length : Nat) + keptV ms
  | [], x, y, X, Y, segs, k, _, _, hX, hY, h1, h2, h3, h4 => by
    rw [List.nil_append, ofV, ofV, List.append_nil]
    have hx := List.take_append_drop X a
    have hy := List.take_append_drop Y b
    by_cases hc : (X : Int) < (a.length : Int) ∨ (Y : Int) < (b.length : Int)
    · refine ⟨segs ++ [⟨k, a.drop X, b.drop Y⟩], [], ?_, ?_, ?_, okG_snoc _ _ h3 (by simp only [List.length_drop]; omega) h4, ?_⟩
      · rw [if_pos hc, hksG_app]
        simp only [hksG]
        have hl := congrArg List.length h1
        rw [List.length_take, List.length_append] at hl
        simp only [Int.toNat_natCast]
        rw [List.take_of_length_le (by simp), List.take_of_length_le (by simp)]
        congr 3
        omega
      · rw [oldG_app]; simp only [oldG, List.append_nil]; rw [← List.append_assoc, ← h1, hx]
      · rw [newG_app]; simp only [newG, List.append_nil]; rw [← List.append_assoc, ← h2, hy]
      · rw [kG_snoc]; simp [keptV]
    · rw [if_neg hc]
      refine ⟨segs, k, by simp, ?_, ?_, h3, by simp [keptV]⟩
      · rw [← h1, List.take_of_length_le (by omega)]
      · rw [← h2, List.take_of_length_le (by omega)]
  | m :: r, x, y, X, Y, segs, k, hc, hxy, hX, hY, h1, h2, h3, h4 => by
    rw [checkV] at hc
    by_cases h0 : codeV a b x y m = 0
    · rw [if_pos h0] at hc
      obtain ⟨c1, c2, c3, c4, c5, c6, c7, c8, c9⟩ := codeV_zero h0
      obtain ⟨A, hA⟩ : ∃ A : Nat, m.a = A := ⟨m.a.toNat, by omega⟩
      obtain ⟨B, hB⟩ : ∃ B : Nat, m.b = B := ⟨m.b.toNat, by omega⟩
      obtain ⟨n, hn⟩ : ∃ n : Nat, m.n = n := ⟨m.n.toNat, by omega⟩
      rw [hA, hB, hn, Int.toNat_natCast, Int.toNat_natCast, Int.toNat_natCast] at c9
      have hXA : X ≤ A := by omega
      have hYB : Y ≤ B := by omega
      have ta := take_more (a := a) hXA
      have tb := take_more (a := b) hYB
      have ta2 := take_more (a := a) (x := A) (y := A + n) (by omega)
      have tb2 := take_more (a := b) (x := B) (y := B + n) (by omega)
      rw [show A + n - A = n by omega, ta] at ta2
      rw [show B + n - B = n by omega, tb, ← c9] at tb2
      have hK : ((a.drop A).take n).length = n := by rw [List.length_take, List.length_drop]; omega
      have hl := congrArg List.length h1
      rw [List.length_take, List.length_append] at hl
      rw [keptV_cons, hn]
      rw [List.cons_append, ofV, hA, hB, hn]
      by_cases hg : X < A ∨ Y < B
      · have e : hksG 0 segs ++ [⟨X, (a.drop X).take (A - X), (b.drop Y).take (B - Y)⟩] = hksG 0 (segs ++ [⟨k, (a.drop X).take (A - X), (b.drop Y).take (B - Y)⟩]) := by
          rw [hksG_app]
          simp only [hksG]
          congr 3
          omega
        obtain ⟨s', t, i1, i2, i3, i4, i5⟩ := of_from (a := a) (b := b) r (m.a + m.n) (m.b + m.n) (A + n) (B + n) (segs ++ [⟨k, (a.drop X).take (A - X), (b.drop Y).take (B - Y)⟩]) ((a.drop A).take n) hc (.inl ⟨by omega, by omega⟩) (by omega) (by omega)
          (by rw [ta2, h1, oldG_app]; simp [oldG]) (by rw [tb2, h2, newG_app]; simp [newG]) (okG_snoc _ _ h3 (by simp only [List.length_take, List.length_drop]; omega) h4) (.inr (by omega))
        refine ⟨s', t, ?_, i2, i3, i4, ?_⟩
        · rw [if_pos (by omega), ← List.append_assoc]
          rw [show ((A : Int) - X).toNat = A - X by omega, show ((B : Int) - Y).toNat = B - Y by omega, Int.toNat_natCast, Int.toNat_natCast, e]
          rw [← i1]; congr 1
        · rw [i5, kG_snoc, hK]; simp only; omega
      · obtain ⟨rfl, rfl⟩ : A = X ∧ B = Y := by omega
        obtain ⟨s', t, i1, i2, i3, i4, i5⟩ := of_from (a := a) (b := b) r (m.a + m.n) (m.b + m.n) (A + n) (B + n) segs (k ++ (a.drop A).take n) hc (.inl ⟨by omega, by omega⟩) (by omega) (by omega)
          (by rw [ta2, h1]; simp) (by rw [tb2, h2]; simp) h3 (.inr (by rw [List.length_append]; omega))
        refine ⟨s', t, ?_, i2, i3, i4, ?_⟩
        · rw [if_neg (by omega), List.nil_append, ← i1]; congr 1
        · rw [i5, List.length_append, hK]; omega
    · rw [if_neg h0] at hc; exact absurd hc h0
/-- The hunks of a valid matching. -/
theorem of_law {a b : Lns} {ms : List Mt} (h : checkV a b (-1) (-1) ms = 0) : ∃ segs t, ofV a b 0 0 (ms ++ [⟨a.length, b.length, 0⟩]) = hksG 0 segs ∧ a = oldG segs ++ t ∧ b = newG segs ++ t ∧ okG segs ∧ (sizeG segs : Int) = a.length + b.length - 2 * keptV ms := by
  obtain ⟨s, t, h1, h2, h3, h4, h5⟩ := of_from (a := a) (b := b) ms (-1) (-1) 0 0 [] [] h (.inr ⟨rfl, rfl, rfl, rfl⟩) (Nat.zero_le _) (Nat.zero_le _) rfl rfl trivial (.inl rfl)
  refine ⟨s, t, by simpa [hksG] using h1, h2, h3, h4, ?_⟩
  have e := size_len s
  have ea := congrArg List.length h2
  have eb := congrArg List.length h3
  rw [List.length_append] at ea eb
  simp only [kG, List.length_nil, Nat.add_zero, Int.natCast_zero, Int.zero_add] at h5
  omega
/-! ### The hunks that lead back; how many lines there are -/
def invV (sh : Int) : List Hp → List Hp
  | [] => []
  | h :: r => ⟨((h.at_ : Int) + sh).toNat, h.new, h.old⟩ :: invV (sh + h.new.length - h.old.length) r
theorem inv_hks : ∀ (l : List Sg) (x y : Nat), invV ((y : Int) - x) (hksG x l) = hksG y (swG l)
  | [], _, _ => rfl
  | s :: l, x, y => by
    have ih := inv_hks l (x + s.k.length + s.o.length) (y + s.k.length + s.n.length)
    show _ = hksG y (⟨s.k, s.n, s.o⟩ :: swG l)
    simp only [hksG, invV]
    rw [← ih]
    rw [show (((x + s.k.length : Nat) : Int) + ((y : Int) - x)).toNat = y + s.k.length by omega]
    rw [show (y : Int) - x + s.n.length - s.o.length = ((y + s.k.length + s.n.length : Nat) : Int) - (x + s.k.length + s.o.length : Nat) by omega]
def sizeH : List Hp → Nat
  | [] => 0
  | h :: r => h.old.length + h.new.length + sizeH r
theorem size_hks : ∀ (l : List Sg) (x : Nat), sizeH (hksG x l) = sizeG l
  | [], _ => rfl
  | s :: l, x => by rw [hksG, sizeH, sizeG, size_hks l]
end Go.Proofs.YtmmcjcaccicheaaGreatDoor

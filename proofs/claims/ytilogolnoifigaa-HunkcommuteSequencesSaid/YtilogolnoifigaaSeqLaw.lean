/- Plain laws on commuting sequences, with no program in sight. -/
import Derived.Test.YtilogolnoifigaaEffect
namespace Go.Proofs.Ytilogolnoifigaa

/-- What 'pass' gives: the hunk at the front, and the sequence behind it. -/
def passV : List Hk → Hk → Option (Hk × List Hk)
  | [], h => some (h, [])
  | s :: t, h => match passV t h with
    | none => none
    | some (h1, t') => match commuteV s h1 with
      | none => none
      | some (h2, s') => some (h2, s' :: t')
/-- What CommuteAll gives for valid hunks. -/
def allV : List Hk → List Hk → Option (List Hk × List Hk)
  | s, [] => some ([], s)
  | s, h :: r => match passV s h with
    | none => none
    | some (h', s') => match allV s' r with
      | none => none
      | some (o, s'') => some (h' :: o, s'')
/-- One hunk past a sequence. -/
def oneV : Hk → List Hk → Option (List Hk × Hk)
  | s, [] => some ([], s)
  | s, h :: r => match commuteV s h with
    | none => none
    | some (h', s') => match oneV s' r with
      | none => none
      | some (o, s'') => some (h' :: o, s'')

theorem passV_cons {s h h2 : Hk} {t x : List Hk} (k : passV (s :: t) h = some (h2, x)) : ∃ h1 t' s', passV t h = some (h1, t') ∧ commuteV s h1 = some (h2, s') ∧ x = s' :: t' := by
  simp only [passV] at k
  split at k
  · cases k
  · rename_i h1 t' e1
    split at k
    · cases k
    · rename_i h2' s' e2
      cases k
      exact ⟨h1, t', s', e1, e2, rfl⟩
theorem passV_mk {s h h1 h2 s' : Hk} {t t' : List Hk} (e1 : passV t h = some (h1, t')) (e2 : commuteV s h1 = some (h2, s')) : passV (s :: t) h = some (h2, s' :: t') := by
  simp only [passV, e1, e2]
theorem allV_cons {s : List Hk} {h : Hk} {r y x : List Hk} (k : allV s (h :: r) = some (y, x)) : ∃ h' s' o, passV s h = some (h', s') ∧ allV s' r = some (o, x) ∧ y = h' :: o := by
  simp only [allV] at k
  split at k
  · cases k
  · rename_i h' s' e1
    split at k
    · cases k
    · rename_i o s'' e2
      cases k
      exact ⟨h', s', o, e1, e2, rfl⟩
theorem allV_mk {s s' : List Hk} {h h' : Hk} {r o x : List Hk} (e1 : passV s h = some (h', s')) (e2 : allV s' r = some (o, x)) : allV s (h :: r) = some (h' :: o, x) := by
  simp only [allV, e1, e2]
theorem oneV_cons {s : Hk} {h : Hk} {r y : List Hk} {x : Hk} (k : oneV s (h :: r) = some (y, x)) : ∃ h' s' o, commuteV s h = some (h', s') ∧ oneV s' r = some (o, x) ∧ y = h' :: o := by
  simp only [oneV] at k
  split at k
  · cases k
  · rename_i h' s' e1
    split at k
    · cases k
    · rename_i o s'' e2
      cases k
      exact ⟨h', s', o, e1, e2, rfl⟩
theorem oneV_mk {s s' : Hk} {h h' : Hk} {r o : List Hk} {x : Hk} (e1 : commuteV s h = some (h', s')) (e2 : oneV s' r = some (o, x)) : oneV s (h :: r) = some (h' :: o, x) := by
  simp only [oneV, e1, e2]

theorem all_cons : ∀ (b : List Hk) {s : Hk} {t y x : List Hk}, allV (s :: t) b = some (y, x) → ∃ b1 t' s', allV t b = some (b1, t') ∧ oneV s b1 = some (y, s') ∧ x = s' :: t'
  | [], s, t, y, x, k => by
    simp only [allV] at k
    cases k
    exact ⟨[], t, s, rfl, rfl, rfl⟩
  | h :: r, s, t, y, x, k => by
    obtain ⟨h2, x1, o, e1, e2, rfl⟩ := allV_cons k
    obtain ⟨h1, t1, s1, e3, e4, rfl⟩ := passV_cons e1
    obtain ⟨b1, t', s', e5, e6, rfl⟩ := all_cons r e2
    exact ⟨h1 :: b1, t', s', allV_mk e3 e5, oneV_mk e4 e6, rfl⟩
theorem one_back : ∀ (b : List Hk) {s s' : Hk} {y : List Hk}, oneV s b = some (y, s') → passV y s' = some (s, b)
  | [], s, s', y, k => by
    simp only [oneV] at k
    cases k
    rfl
  | h :: r, s, s', y, k => by
    obtain ⟨h', s1, o, e1, e2, rfl⟩ := oneV_cons k
    exact passV_mk (one_back r e2) (commuteV_twice e1)
theorem all_nil : ∀ (b : List Hk), allV [] b = some (b, [])
  | [] => rfl
  | _ :: r => allV_mk rfl (all_nil r)
/-- P11.3 for sequences. -/
theorem all_twice : ∀ (a : List Hk) {b y x : List Hk}, allV a b = some (y, x) → allV y x = some (a, b)
  | [], b, y, x, k => by
    rw [all_nil] at k
    cases k
    rfl
  | s :: t, b, y, x, k => by
    obtain ⟨b1, t', s', e1, e2, rfl⟩ := all_cons b k
    exact allV_mk (one_back b1 e2) (all_twice t e1)

theorem passV_len : ∀ (s : List Hk) {h h' : Hk} {x : List Hk}, passV s h = some (h', x) → x.length = s.length
  | [], h, h', x, k => by
    simp only [passV] at k
    cases k
    rfl
  | s :: t, h, h', x, k => by
    obtain ⟨h1, t1, s1, e3, e4, rfl⟩ := passV_cons k
    simp only [List.length_cons, passV_len t e3]
theorem allV_len : ∀ (b : List Hk) {s y x : List Hk}, allV s b = some (y, x) → y.length = b.length ∧ x.length = s.length
  | [], s, y, x, k => by
    simp only [allV] at k
    cases k
    exact ⟨rfl, rfl⟩
  | h :: r, s, y, x, k => by
    obtain ⟨h', s1, o, e1, e2, rfl⟩ := allV_cons k
    have h1 := allV_len r e2
    have h2 := passV_len s e1
    exact ⟨by simp only [List.length_cons, h1.1], by rw [h1.2, h2]⟩
/-- Commute's hunks are valid: so are all that it gives. -/
theorem commuteV_ok {a b y x : Hk} (h : commuteV a b = some (y, x)) : y.ok = true ∧ x.ok = true := ⟨(commuteV_some (commuteV_twice h)).1, (commuteV_some (commuteV_twice h)).2.1⟩
def AllOk (l : List Hk) : Prop := ∀ h ∈ l, h.ok = true
theorem AllOk.nil : AllOk [] := by simp [AllOk]
theorem AllOk.cons {h : Hk} {l : List Hk} (h1 : h.ok = true) (h2 : AllOk l) : AllOk (h :: l) := by
  intro x hx
  rcases List.mem_cons.1 hx with rfl | hx
  · exact h1
  · exact h2 x hx
theorem passV_ok : ∀ (s : List Hk) {h h' : Hk} {x : List Hk}, passV s h = some (h', x) → AllOk s → h.ok = true → h'.ok = true ∧ AllOk x
  | [], h, h', x, k, hs, hh => by
    simp only [passV] at k
    cases k
    exact ⟨hh, AllOk.nil⟩
  | s :: t, h, h', x, k, hs, hh => by
    obtain ⟨h1, t1, s1, e3, e4, rfl⟩ := passV_cons k
    obtain ⟨k1, k2⟩ := passV_ok t e3 (fun y hy => hs y (List.mem_cons_of_mem _ hy)) hh
    obtain ⟨k3, k4⟩ := commuteV_ok e4
    exact ⟨k3, AllOk.cons k4 k2⟩
theorem allV_ok : ∀ (b : List Hk) {s y x : List Hk}, allV s b = some (y, x) → AllOk s → AllOk b → AllOk y ∧ AllOk x
  | [], s, y, x, k, hs, hb => by
    simp only [allV] at k
    cases k
    exact ⟨AllOk.nil, hs⟩
  | h :: r, s, y, x, k, hs, hb => by
    obtain ⟨h', s1, o, e1, e2, rfl⟩ := allV_cons k
    obtain ⟨k1, k2⟩ := passV_ok s e1 hs (hb h (List.mem_cons_self ..))
    obtain ⟨k3, k4⟩ := allV_ok r e2 k2 (fun y hy => hb y (List.mem_cons_of_mem _ hy))
    exact ⟨AllOk.cons k1 k3, k4⟩

/-! ### The effect -/
/-- Each hunk of the one list is as the other says. -/
def Rel (w : World) : List Hk → List AH → Prop
  | [], [] => True
  | h :: t, x :: r => RH w h x ∧ Rel w t r
  | _, _ => False
theorem Rel.cons_left {w : World} {h : Hk} {t : List Hk} {xs : List AH} (k : Rel w (h :: t) xs) : ∃ x r, xs = x :: r ∧ RH w h x ∧ Rel w t r := by
  cases xs with
  | nil => exact k.elim
  | cons x r => exact ⟨x, r, rfl, k.1, k.2⟩
theorem Rel.nil_left {w : World} {xs : List AH} (k : Rel w [] xs) : xs = [] := by
  cases xs with
  | nil => rfl
  | cons x r => exact k.elim
theorem Rel.ext {w w' : World} (e : Ext w w') : ∀ {hs : List Hk} {xs : List AH}, Rel w hs xs → Rel w' hs xs
  | [], [], _ => trivial
  | _ :: _, _ :: _, k => ⟨k.1.ext e, Rel.ext e k.2⟩
  | [], _ :: _, k => k.elim
  | _ :: _, [], k => k.elim
theorem Rel.len {w : World} : ∀ {hs : List Hk} {xs : List AH}, Rel w hs xs → xs.length = hs.length
  | [], [], _ => rfl
  | _ :: _, _ :: _, k => by simp only [List.length_cons, Rel.len k.2]
  | [], _ :: _, k => k.elim
  | _ :: _, [], k => k.elim
theorem Rel.get {w : World} : ∀ {hs : List Hk} {xs : List AH}, Rel w hs xs → ∀ (k : Nat) (h : Hk) (x : AH), hs[k]? = some h → xs[k]? = some x → RH w h x
  | [], [], _, k, h, x, h1, _ => by simp at h1
  | _ :: _, _ :: _, r, 0, h, x, h1, h2 => by cases h1; cases h2; exact r.1
  | _ :: _, _ :: _, r, k + 1, h, x, h1, h2 => Rel.get r.2 k h x (by simpa using h1) (by simpa using h2)
  | [], _ :: _, r, _, _, _, _, _ => r.elim
  | _ :: _, [], r, _, _, _, _, _ => r.elim
theorem Rel.of {w : World} : ∀ {hs : List Hk} {xs : List AH}, xs.length = hs.length → (∀ (k : Nat) (h : Hk) (x : AH), hs[k]? = some h → xs[k]? = some x → RH w h x) → Rel w hs xs
  | [], [], _, _ => trivial
  | h :: t, x :: r, hl, k => ⟨k 0 h x rfl rfl, Rel.of (by simpa using hl) fun j h x h1 h2 => k (j + 1) h x (by simpa using h1) (by simpa using h2)⟩
  | [], _ :: _, hl, _ => by simp at hl
  | _ :: _, [], hl, _ => by simp at hl

theorem followV_app : ∀ (xs ys : List AH) (ls : List ByteArray), followV ls (xs ++ ys) = (followV ls xs).bind fun l => followV l ys
  | [], ys, ls => rfl
  | x :: t, ys, ls => by
    simp only [List.cons_append, followV]
    cases applyV ls x with
    | none => rfl
    | some l => exact followV_app t ys l

theorem pass_effect {w : World} : ∀ (s : List Hk) {h h' : Hk} {s' : List Hk} {xs : List AH} {x : AH} {ls r : List ByteArray}, passV s h = some (h', s') → Rel w s xs → RH w h x → followV ls (xs ++ [x]) = some r →
    ∃ x' xs', RH w h' x' ∧ Rel w s' xs' ∧ followV ls (x' :: xs') = some r
  | [], h, h', s', xs, x, ls, r, k, hs, hx, hf => by
    simp only [passV] at k
    cases k
    obtain rfl := hs.nil_left
    exact ⟨x, [], hx, trivial, hf⟩
  | s0 :: t, h, h', s', xs, x, ls, r, k, hs, hx, hf => by
    obtain ⟨h1, t1, s1, e3, e4, rfl⟩ := passV_cons k
    obtain ⟨x0, xt, rfl, k1, k2⟩ := hs.cons_left
    simp only [List.cons_append, followV] at hf
    cases e0 : applyV ls x0 with
    | none => rw [e0] at hf; cases hf
    | some l1 =>
      rw [e0] at hf
      obtain ⟨x1, xt', k3, k4, k5⟩ := pass_effect t e3 k2 hx hf
      simp only [followV] at k5
      cases e1 : applyV l1 x1 with
      | none => rw [e1] at k5; cases k5
      | some l2 =>
        rw [e1] at k5
        have h5 := effect_is (ls := ls) (l2 := l2) k1 k3 e4 (by simp only [followV, e0, e1])
        obtain ⟨k6, k7⟩ := commuteV_like e4
        refine ⟨_, _ :: xt', rh_like k3 k6, ⟨rh_like k1 k7, k4⟩, ?_⟩
        have := followV_app [{ x1 with at_ := h'.at_ }, { x0 with at_ := s1.at_ }] xt' ls
        rw [h5] at this
        exact this.trans k5

/-- P11.2 for sequences. -/
theorem all_effect {w : World} : ∀ (b : List Hk) {s o s'' : List Hk} {xs ys : List AH} {ls r : List ByteArray}, allV s b = some (o, s'') → Rel w s xs → Rel w b ys → followV ls (xs ++ ys) = some r →
    ∃ os xs', Rel w o os ∧ Rel w s'' xs' ∧ followV ls (os ++ xs') = some r
  | [], s, o, s'', xs, ys, ls, r, k, hs, hb, hf => by
    simp only [allV] at k
    cases k
    obtain rfl := hb.nil_left
    exact ⟨[], xs, trivial, hs, by simpa using hf⟩
  | h :: t, s, o, s'', xs, ys, ls, r, k, hs, hb, hf => by
    obtain ⟨h', s1, o1, e1, e2, rfl⟩ := allV_cons k
    obtain ⟨y, yr, rfl, k1, k2⟩ := hb.cons_left
    rw [show xs ++ y :: yr = (xs ++ [y]) ++ yr by simp, followV_app] at hf
    cases e0 : followV ls (xs ++ [y]) with
    | none => rw [e0] at hf; cases hf
    | some l' =>
      rw [e0] at hf
      obtain ⟨x', xs1, k3, k4, k5⟩ := pass_effect s e1 hs k1 e0
      simp only [followV] at k5
      cases e3 : applyV ls x' with
      | none => rw [e3] at k5; cases k5
      | some m =>
        rw [e3] at k5
        simp only at k5
        have h6 : followV m (xs1 ++ yr) = some r := by rw [followV_app, k5]; exact hf
        obtain ⟨os, xs', k6, k7, k8⟩ := all_effect t e2 k4 k2 h6
        exact ⟨x' :: os, xs', ⟨k3, k6⟩, k7, by simp only [List.cons_append, followV, e3, k8]⟩
end Go.Proofs.Ytilogolnoifigaa

/- One signature, one message: the law in plain Lean. No condition. -/
import Derived.Test.YtmmcjcaccicheaaBase
namespace Go.Proofs.Ytmmcjcaccicheaa

abbrev Bs := List UInt8
/-- A signature: the key's number, the digests that are shown, the others, those beside the path. -/
structure Sg where
  i : Int
  rev : List Bs
  oth : List Bs
  path : List Bs
def tagV (H : Bs → Bs) (m : Bs) : Bs := (H m).take 16
def bitV (t : Bs) (p : Nat) : Nat := (t.getD (p / 8) 0).toNat >>> (7 - p % 8) % 2
def pairV (H : Bs → Bs) (bit : Nat → Nat) (rev oth : List Bs) (p : Nat) : Bs :=
  if bit p = 1 then oth.getD p [] ++ H (rev.getD p []) else H (rev.getD p []) ++ oth.getD p []
def leafS (H : Bs → Bs) (bit : Nat → Nat) (rev oth : List Bs) (n : Nat) : Bs := 0 :: (List.range n).flatMap (pairV H bit rev oth)
def aboveV (a b : Bs) : Bs := 1 :: (a ++ b)
def upV (H : Bs → Bs) (c : Bool) (s d : Bs) : Bs := if c then aboveV d (H s) else aboveV (H s) d
def lfV (H : Bs → Bs) (t : Bs) (g : Sg) : Bs := leafS H (bitV t) g.rev g.oth 128
def n1V (H : Bs → Bs) (t : Bs) (g : Sg) : Bs := upV H (decide (g.i % 2 = 1)) (lfV H t g) (g.path.getD 0 [])
def n2V (H : Bs → Bs) (t : Bs) (g : Sg) : Bs := upV H (decide (1 < g.i)) (n1V H t g) (g.path.getD 1 [])
def stringsV (H : Bs → Bs) (t : Bs) (g : Sg) : List Bs := (List.range 128).map (fun p => g.rev.getD p []) ++ [lfV H t g, n1V H t g, n2V H t g]
/-- The form of a signature: digests have 32 bytes. -/
def Sg.wf (g : Sg) : Prop := g.rev.length = 128 ∧ g.oth.length = 128 ∧ g.path.length = 2 ∧ (∀ d ∈ g.rev, d.length = 32) ∧ (∀ d ∈ g.oth, d.length = 32) ∧ (∀ d ∈ g.path, d.length = 32)

theorem getD_len {l : List Bs} {n p : Nat} (h : ∀ d ∈ l, d.length = n) (hp : p < l.length) : (l.getD p []).length = n := by
  rw [List.getD_eq_getElem?_getD, List.getElem?_eq_getElem hp]
  exact h _ (List.getElem_mem hp)
theorem app_inj {a b c d : Bs} (h : a ++ b = c ++ d) (hl : a.length = c.length) : a = c ∧ b = d := List.append_inj h hl
theorem pairV_len {H : Bs → Bs} (hH : ∀ s, (H s).length = 32) {bit : Nat → Nat} {rev oth : List Bs} {p : Nat} (ho : ∀ d ∈ oth, d.length = 32) (hp : p < oth.length) :
    (pairV H bit rev oth p).length = 64 := by
  unfold pairV
  have h1 := getD_len ho hp
  split <;> rw [List.length_append, h1, hH]
/-- Equal rows of pieces of one size have equal pieces. -/
theorem flat_inj {f g : Nat → Bs} {m : Nat} : ∀ (l : List Nat), (∀ p ∈ l, (f p).length = m) → (∀ p ∈ l, (g p).length = m) → l.flatMap f = l.flatMap g → ∀ p ∈ l, f p = g p
  | [], _, _, _ => by simp
  | x :: r, hf, hg, h => by
    rw [List.flatMap_cons, List.flatMap_cons] at h
    obtain ⟨h1, h2⟩ := app_inj h ((hf x List.mem_cons_self).trans (hg x List.mem_cons_self).symm)
    intro p hp
    rcases List.mem_cons.1 hp with rfl | hp
    · exact h1
    · exact flat_inj r (fun q hq => hf q (List.mem_cons_of_mem _ hq)) (fun q hq => hg q (List.mem_cons_of_mem _ hq)) h2 p hp
theorem upV_inj {H : Bs → Bs} (hH : ∀ s, (H s).length = 32) {c : Bool} {s t d e : Bs} (hd : d.length = 32) (he : e.length = 32) (h : upV H c s d = upV H c t e) : H s = H t := by
  unfold upV aboveV at h
  cases c
  · exact (app_inj (List.cons.inj h).2 (by rw [hH, hH])).1
  · exact (app_inj (List.cons.inj h).2 (by rw [hd, he])).2
theorem byte_bits : ∀ (x y : Nat), x < 256 → y < 256 → (∀ k, k < 8 → x >>> k % 2 = y >>> k % 2) → x = y := by
  intro x y hx hy h
  apply Nat.eq_of_testBit_eq
  intro k
  by_cases hk : k < 8
  · have := h k hk
    rw [Nat.testBit, Nat.testBit, Nat.one_and_eq_mod_two, Nat.one_and_eq_mod_two, this]
  · have h2 : 256 ≤ 2 ^ k := (show (256 : Nat) = 2 ^ 8 by rfl) ▸ Nat.pow_le_pow_right (by omega) (by omega)
    rw [Nat.testBit_lt_two_pow (by omega), Nat.testBit_lt_two_pow (by omega)]
theorem bits_ne {s t : Bs} (hs : s.length = 16) (ht : t.length = 16) (h : s ≠ t) : ∃ p, p < 128 ∧ bitV s p ≠ bitV t p := by
  refine Classical.byContradiction fun hn => h ?_
  have ha : ∀ p, p < 128 → bitV s p = bitV t p := fun p hp => Classical.byContradiction fun hq => hn ⟨p, hp, hq⟩
  apply List.ext_getElem (hs.trans ht.symm)
  intro i h1 h2
  have hi : i < 16 := by omega
  apply UInt8.toNat_inj.1
  apply byte_bits _ _ (UInt8.toNat_lt _) (UInt8.toNat_lt _)
  intro k hk
  have := ha (8 * i + (7 - k)) (by omega)
  unfold bitV at this
  rw [show (8 * i + (7 - k)) / 8 = i by omega, show 7 - (8 * i + (7 - k)) % 8 = k by omega, List.getD_eq_getElem?_getD, List.getElem?_eq_getElem h1, List.getD_eq_getElem?_getD, List.getElem?_eq_getElem h2] at this
  exact this
theorem bit_two (t : Bs) (p : Nat) : bitV t p = 0 ∨ bitV t p = 1 := by
  unfold bitV; omega

/-- The law: two signatures for one root and one key, and tags that differ, exhibit a collision if no revealed secret belongs to a string that was left secret. -/
theorem forged {H : Bs → Bs} (hH : ∀ s, (H s).length = 32) {h g : Sg} {s t : Bs} (hs : s.length = 16) (ht : t.length = 16) (hw : h.wf) (gw : g.wf) (hi : h.i = g.i)
    (htop : H (n2V H s h) = H (n2V H t g)) (hne : s ≠ t) (hno : ∀ p, p < 128 → bitV s p ≠ bitV t p → H (g.rev.getD p []) ≠ h.oth.getD p []) :
    ∃ x ∈ stringsV H s h ++ stringsV H t g, ∃ y ∈ stringsV H s h ++ stringsV H t g, x ≠ y ∧ H x = H y := by
  have m1 : ∀ x ∈ [lfV H s h, n1V H s h, n2V H s h], x ∈ stringsV H s h ++ stringsV H t g := fun x hx => List.mem_append_left _ (List.mem_append_right _ hx)
  have m2 : ∀ x ∈ [lfV H t g, n1V H t g, n2V H t g], x ∈ stringsV H s h ++ stringsV H t g := fun x hx => List.mem_append_right _ (List.mem_append_right _ hx)
  rcases Classical.em (n2V H s h = n2V H t g) with e2 | e2
  rotate_left
  · exact ⟨_, m1 _ (by simp), _, m2 _ (by simp), e2, htop⟩
  have e2' := e2
  unfold n2V at e2'
  rw [hi] at e2'
  have k1 := upV_inj hH (getD_len hw.2.2.2.2.2 (by rw [hw.2.2.1]; omega)) (getD_len gw.2.2.2.2.2 (by rw [gw.2.2.1]; omega)) e2'
  rcases Classical.em (n1V H s h = n1V H t g) with e1 | e1
  rotate_left
  · exact ⟨_, m1 _ (by simp), _, m2 _ (by simp), e1, k1⟩
  have e1' := e1
  unfold n1V at e1'
  rw [hi] at e1'
  have k0 := upV_inj hH (getD_len hw.2.2.2.2.2 (by rw [hw.2.2.1]; omega)) (getD_len gw.2.2.2.2.2 (by rw [gw.2.2.1]; omega)) e1'
  rcases Classical.em (lfV H s h = lfV H t g) with e0 | e0
  rotate_left
  · exact ⟨_, m1 _ (by simp), _, m2 _ (by simp), e0, k0⟩
  exfalso
  unfold lfV leafS at e0
  have hp := flat_inj (m := 64) (List.range 128) (fun p hp => pairV_len hH hw.2.2.2.2.1 (by rw [hw.2.1]; exact List.mem_range.1 hp)) (fun p hp => pairV_len hH gw.2.2.2.2.1 (by rw [gw.2.1]; exact List.mem_range.1 hp)) (List.cons.inj e0).2
  obtain ⟨p, hp1, hp2⟩ := bits_ne hs ht hne
  have he := hp p (List.mem_range.2 hp1)
  have ho : (h.oth.getD p []).length = 32 := getD_len hw.2.2.2.2.1 (by rw [hw.2.1]; exact hp1)
  have go : (g.oth.getD p []).length = 32 := getD_len gw.2.2.2.2.1 (by rw [gw.2.1]; exact hp1)
  unfold pairV at he
  rcases bit_two s p with b1 | b1 <;> rcases bit_two t p with b2 | b2
  · exact hp2 (b1.trans b2.symm)
  · rw [if_neg (by omega), if_pos b2] at he
    exact hno p hp1 hp2 (app_inj he (by rw [hH, go])).2.symm
  · rw [if_pos b1, if_neg (by omega)] at he
    exact hno p hp1 hp2 (app_inj he (by rw [hH, ho])).1.symm
  · exact hp2 (b1.trans b2.symm)

/-- What the search for a collision answers: it keeps the last string of each digest. -/
def collF (H : Bs → Bs) : List Bs → List (Bs × Bs) → Bool
  | [], _ => false
  | s :: r, m => match m.lookup (H s) with
    | some t => if t ≠ s then true else collF H r ((H s, s) :: m)
    | none => collF H r ((H s, s) :: m)
/-- The table holds a string of each digest that was met, and all met strings of that digest are it. -/
theorem coll_any (H : Bs → Bs) : ∀ (l : List Bs) (m : List (Bs × Bs)) (pre : List Bs), (∀ s ∈ pre, m.lookup (H s) = some s) → (∃ x ∈ pre ++ l, ∃ y ∈ pre ++ l, x ≠ y ∧ H x = H y) → collF H l m = true
  | [], m, pre, hm, hx => by
    obtain ⟨x, hx, y, hy, hn, he⟩ := hx
    rw [List.append_nil] at hx hy
    have h1 := hm x hx
    rw [he, hm y hy] at h1
    exact absurd (Option.some.inj h1).symm hn
  | s :: r, m, pre, hm, hx => by
    have hx' : ∃ x ∈ (pre ++ [s]) ++ r, ∃ y ∈ (pre ++ [s]) ++ r, x ≠ y ∧ H x = H y := by
      rw [List.append_assoc]; exact hx
    have key : (∀ t ∈ pre, H t = H s → t = s) → collF H r ((H s, s) :: m) = true := by
      intro hs
      refine coll_any H r _ (pre ++ [s]) ?_ hx'
      intro t ht
      rw [List.lookup_cons]
      by_cases e : H t = H s
      · rw [e]
        have : t = s := by
          rcases List.mem_append.1 ht with h | h
          · exact hs t h e
          · exact List.mem_singleton.1 h
        simp [this]
      · have : (H t == H s) = false := by simp [e]
        rw [this]
        rcases List.mem_append.1 ht with h | h
        · exact hm t h
        · exact absurd (congrArg H (List.mem_singleton.1 h)) e
    unfold collF
    split
    · next t he =>
      split
      · rfl
      · next hn =>
        have hts : t = s := Classical.byContradiction hn
        subst hts
        apply key
        intro u hu heq
        have := hm u hu
        rw [heq, he] at this
        exact (Option.some.inj this).symm
    · next he =>
      apply key
      intro u hu heq
      have := hm u hu
      rw [heq, he] at this
      exact absurd this (by simp)
end Go.Proofs.Ytmmcjcaccicheaa

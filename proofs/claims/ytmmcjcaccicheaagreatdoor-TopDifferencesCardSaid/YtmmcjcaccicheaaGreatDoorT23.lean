/- UdRng UdHunk UdPlain: parts of the proof of TopDifferences, one text behind the other. No condition. -/
import Derived.Test.YtmmcjcaccicheaaGreatDoorT03
import Derived.Test.YtmmcjcaccicheaaGreatDoorT04
/- The law for a range over a function whose rounds make memory of their own at their beginning (a copy of a struct), beside an iterator that turns blocks of its own. No condition. -/
namespace Go.Proofs.YtmmcjcaccicheaaGreatDoor
open Go.RowKit
theorem wpIn_range4 {α : Type} {P : Program} {g : Operand} {ps : Array Tmp} {assign body : Code} {Q : Exit → Act → World → Prop} {a : Act} {w : World}
    {gf : Nat} {lb : Array Value} (hg : a.eval g = .func (.func gf) #[] lb) (eg : ∀ args w, (callFunc gf args).run P w = .ok (.enter gf args) w)
    {Enc : α → Array Value → (Nat → Prop) → World → Prop} {xs : List α} {It : Nat → Prop} {Pre : (Nat → Prop) → World → Prop} (hit : Iter P gf lb Enc xs It Pre) (hps : ∀ x vs S W, Enc x vs S W → vs.size = ps.size)
    (hEv : ∀ x vs S W W', Enc x vs S W → Lv S W W' → Enc x vs S W') (hEs : ∀ x vs (S S' : Nat → Prop) W, Enc x vs S W → (∀ g, S' g → S g) → Enc x vs S' W)
    (hIt : ∀ g, It g → g < w.heap.size)
    (I : List α → (Nat → Prop) → World → Prop) (Ix : Code → List α → (Nat → Prop) → World → Prop) (hI : Firm It w.heap.size I) (hIx : ∀ c, Firm It w.heap.size (Ix c)) (S0 : Nat → Prop) (h0 : I [] S0 w) (hS0 : ∀ g, S0 g → g < w.heap.size)
    (hpre : ∀ S W, Ext w W → (∀ g, g < w.heap.size → S g → S0 g) → Pre S W) (Asg : α → Array Value → World → Act → World → Prop) (hAsg : ∀ x vs W a₁ W', Asg x vs W a₁ W' → Ext W W')
    (hassign : ∀ (l : Nat) (x : α) (vs : Array Value) (S : Nat → Prop) (W : World) (K : Act → World → Prop), Enc x vs S W → (∀ a₁ W', Asg x vs W a₁ W' → K a₁ W') →
      assign.wpIn (Fence.wide.inRound l) 0 P (Exit.then K (fun _ _ _ => False)) { tmps := (ps.zip vs).foldl (fun t (p, v) => t.setIfInBounds p v) a.tmps, defers := [] } W)
    (hbody : ∀ (l : Nat) (pre : List α) (x : α) (vs : Array Value) (S : Nat → Prop) (W0 W' W : World) (a₁ : Act), Asg x vs W0 a₁ W' → w.heap.size ≤ W0.heap.size → Lv (fun g => w.heap.size ≤ g ∧ NC W' g) W' W → I pre S W → w.heap.size ≤ W.heap.size → (pre ++ [x]) <+: xs → Enc x vs S W → (∀ g, S g → g < W0.heap.size) → body.wpIn (Fence.wide.inRound l) 0 P (bodyQ I Ix (pre ++ [x]) S W) a₁ W)
    (hdone : ∀ (D : Nat) (S : Nat → Prop) (W : World), w.heap.size ≤ D → ¬ S D → I xs S W → W.heap[D]? = some (.deferred (some [])) → Q .normal { a with defers := { target := .collected D, args := #[] } :: a.defers } W)
    (hstop : ∀ (D : Nat) (c : Code) (pre : List α) (S : Nat → Prop) (W : World), w.heap.size ≤ D → ¬ S D → pre <+: xs → Ix c pre S W → W.heap[D]? = some (.deferred (some [])) → c.wpIn Fence.wide 0 P Q { a with defers := { target := .collected D, args := #[] } :: a.defers } W) :
    (Code.rangeFunc g ps assign body).wpIn Fence.wide 0 P Q a w := by
  refine wpIn_rangeFunc ?_
  intro fn hfn
  obtain ⟨rec, hrec⟩ : ∃ rec : LoopState → Option Code → Loop, rec = fun st pe => { state := st, pending := pe, fn, tmps := a.tmps, params := ps, assign, body, defers := w.heap.size } := ⟨_, rfl⟩
  obtain ⟨W1, hW1⟩ : ∃ W1, (w.alloc (.deferred (some []))).alloc (.loop (rec .ready none)) = W1 := ⟨_, rfl⟩
  have hsz : W1.heap.size = w.heap.size + 2 := by rw [← hW1]; simp
  have hL1 : W1.heap[w.heap.size + 1]? = some (.loop (rec .ready none)) := by
    rw [← hW1]; have := World.alloc_heap_new (w.alloc (.deferred (some []))) (.loop (rec .ready none)); rwa [World.size_alloc] at this
  have hK1 : W1.heap[w.heap.size]? = some (.deferred (some [])) := by
    rw [← hW1]; exact (Below.heap_alloc _ _ _ (by simp)).trans (World.alloc_heap_new w _)
  have hE1 : Ext w W1 := by rw [← hW1]; exact ((Ext.refl w).alloc _).alloc _
  have hI1 : I [] S0 W1 := hI _ _ _ _ h0 (Lv.of_ext hE1)
  have nIt1 : ¬ It w.heap.size := fun h => absurd (hIt _ h) (by omega)
  have nIt2 : ¬ It (w.heap.size + 1) := fun h => absurd (hIt _ h) (by omega)
  refine ⟨w.heap.size + 1, [{ target := .collected w.heap.size, args := #[] }], W1, { target := .fn (.func gf) lb, args := #[.func (.yield (w.heap.size + 1)) #[] #[]] }, W1, gf,
    #[.func (.yield (w.heap.size + 1)) #[] #[]] ++ lb, W1, ?_, ?_, ?_, ?_, fun h => (by cases h), ?_⟩
  · rw [← hW1, hrec]; exact run_enterLoop_outer _ _ _ _ _
  · simp only [resolve, hg]
    simp [go_sem]
  · intro f' _; trivial
  · simp [invoke, go_sem, eg]
  · refine (hit (w.heap.size + 1)
      (fun pre S W => ∃ S', (I pre S' W ∧ ∀ g, S' g → g < W.heap.size) ∧ ¬ S' w.heap.size ∧ ¬ S' (w.heap.size + 1) ∧ (S = fun g => S' g ∨ g = w.heap.size ∨ g = w.heap.size + 1) ∧ W1.heap.size ≤ W.heap.size ∧ W.heap[w.heap.size + 1]? = some (.loop (rec .ready none)) ∧ W.heap[w.heap.size]? = some (.deferred (some [])))
      (fun pre S W => ∃ c S', Ix c pre S' W ∧ ¬ S' w.heap.size ∧ ¬ S' (w.heap.size + 1) ∧ (S = fun g => S' g ∨ g = w.heap.size ∨ g = w.heap.size + 1) ∧ W1.heap.size ≤ W.heap.size ∧ W.heap[w.heap.size + 1]? = some (.loop (rec .done (some c))) ∧ W.heap[w.heap.size]? = some (.deferred (some [])))
      (fun g => S0 g ∨ g = w.heap.size ∨ g = w.heap.size + 1) W1 (hpre _ _ hE1 (fun g hg h => h.elim id (fun h => by omega))) (by rintro g (h | h); have := hS0 _ h; omega; omega) ?_ ?_ ?_
      ⟨S0, ⟨hI1, fun g h => by have := hS0 g h; omega⟩, fun h => absurd (hS0 _ h) (by omega), fun h => absurd (hS0 _ h) (by omega), rfl, Nat.le_refl _, hL1, hK1⟩).mono ?_
    · rintro pre S A B ⟨S', hi, hn1, hn2, rfl, hle, hl, hk⟩ hv
      refine ⟨S', ⟨hI _ _ _ _ hi.1 (hv.mono (fun g _ h => .inl h)), fun g h => Nat.lt_of_lt_of_le (hi.2 g h) hv.size⟩, hn1, hn2, rfl, Nat.le_trans hle hv.size, ?_, ?_⟩
      · exact (hv.2 _ (Array.getElem?_eq_some_iff.1 hl).1 nIt2).trans hl
      · exact (hv.2 _ (Array.getElem?_eq_some_iff.1 hk).1 nIt1).trans hk
    · rintro pre S A B ⟨c, S', hi, hn1, hn2, rfl, hle, hl, hk⟩ hv
      refine ⟨c, S', hIx c _ _ _ _ hi (hv.mono (fun g _ h => .inl h)), hn1, hn2, rfl, Nat.le_trans hle hv.size, ?_, ?_⟩
      · exact (hv.2 _ (Array.getElem?_eq_some_iff.1 hl).1 nIt2).trans hl
      · exact (hv.2 _ (Array.getElem?_eq_some_iff.1 hk).1 nIt1).trans hk
    · -- one round
      rintro pre x vs S W ⟨S', hi, hn1, hn2, rfl, hle, hl, hk⟩ hpx henc
      have hlt : w.heap.size + 1 < W.heap.size := (Array.getElem?_eq_some_iff.1 hl).1
      have hy := run_yield (P := P) (args := vs) hl (by rw [hrec]; exact hps x _ _ _ henc)
      rw [hrec] at hy
      refine ⟨fn, _, assign, body, hy, roundIn_of_wpIn hfn (hassign _ x vs _ W _ henc fun a₁ Wa hasg => ?_)⟩
      have hEa := hAsg _ _ _ _ _ hasg
      have hla : Wa.heap[w.heap.size + 1]? = some (.loop (rec .ready none)) := hEa.block hl
      have hka : Wa.heap[w.heap.size]? = some (.deferred (some [])) := hEa.block hk
      refine ⟨_, run_beginRound hla (by rw [hrec]), ?_⟩
      have hlta : w.heap.size + 1 < Wa.heap.size := Nat.lt_of_lt_of_le hlt hEa.size
      obtain ⟨W2, hW2⟩ : ∃ W2, Wa.putObj (w.heap.size + 1) (.loop { rec .ready none with state := .busy }) = W2 := ⟨_, rfl⟩
      have hl2 : W2.heap[w.heap.size + 1]? = some (.loop { rec .ready none with state := .busy }) := by rw [← hW2]; exact World.putObj_heap_same hlta
      have hk2 : W2.heap[w.heap.size]? = some (.deferred (some [])) := by rw [← hW2]; exact (World.putObj_heap_other (by omega)).trans hka
      have hva : Lv (fun g => g = w.heap.size + 1) Wa W2 := by rw [← hW2]; exact Lv.putObj (S := fun g => g = w.heap.size + 1) (Lv.refl _ _) (fun _ => rfl) _
      have hv2 : Lv (fun g => g = w.heap.size + 1) W W2 := (Lv.of_ext hEa).trans hva (fun _ _ h => h)
      have hs2 : W.heap.size ≤ W2.heap.size := hv2.size
      have hi2 : I pre S' W2 := hI _ _ _ _ hi.1 (hv2.mono (fun g _ h => by subst h; exact .inr ⟨by omega, _, hl, rfl⟩))
      have henc2 : Enc x vs S' W2 := hEs _ _ _ _ _ (hEv _ _ _ _ _ henc (hv2.mono (fun g _ h => .inr (.inr h)))) (fun g h => .inl h)
      have hvb : Lv (fun g => w.heap.size ≤ g ∧ NC Wa g) Wa W2 := hva.mono (fun g _ h => by subst h; exact ⟨by omega, _, hla, rfl⟩)
      rw [hW2]
      refine wpIn_mono (hbody _ pre x vs S' W Wa W2 a₁ hasg (by omega) hvb hi2 (by omega) hpx henc2 hi.2) ?_
      have fin : ∀ (jump : Option Code) (S3 : Nat → Prop) (W3 : World), Lv S' W2 W3 → (∀ g, S3 g → S' g ∨ W2.heap.size ≤ g) → (∀ g, S3 g → g < W3.heap.size) →
          (Instr.endRound (w.heap.size + 1) jump).run P W3 = .ok (.bool jump.isNone) (W3.putObj (w.heap.size + 1) (.loop (rec (if jump.isNone then .ready else .done) jump))) ∧
          (W3.putObj (w.heap.size + 1) (.loop (rec (if jump.isNone then .ready else .done) jump))).heap[w.heap.size + 1]? = some (.loop (rec (if jump.isNone then .ready else .done) jump)) ∧
          (W3.putObj (w.heap.size + 1) (.loop (rec (if jump.isNone then .ready else .done) jump))).heap[w.heap.size]? = some (.deferred (some [])) ∧
          W1.heap.size ≤ (W3.putObj (w.heap.size + 1) (.loop (rec (if jump.isNone then .ready else .done) jump))).heap.size ∧
          Lv (fun g => S' g ∨ g = w.heap.size ∨ g = w.heap.size + 1) W (W3.putObj (w.heap.size + 1) (.loop (rec (if jump.isNone then .ready else .done) jump))) ∧
          (∀ g, (S3 g ∨ g = w.heap.size ∨ g = w.heap.size + 1) → (S' g ∨ g = w.heap.size ∨ g = w.heap.size + 1) ∨ W.heap.size ≤ g) ∧
          (∀ g, (S3 g ∨ g = w.heap.size ∨ g = w.heap.size + 1) → g < (W3.putObj (w.heap.size + 1) (.loop (rec (if jump.isNone then .ready else .done) jump))).heap.size) ∧ ¬ S3 w.heap.size ∧ ¬ S3 (w.heap.size + 1) ∧
          Lv (fun g => It g ∨ (w.heap.size ≤ g ∧ NC W3 g)) W3 (W3.putObj (w.heap.size + 1) (.loop (rec (if jump.isNone then .ready else .done) jump))) := fun jump S3 W3 hv3 hs3 hz3 => by
        have hl3 : W3.heap[w.heap.size + 1]? = some (.loop { rec .ready none with state := .busy }) := (hv3.2 _ (by omega) hn2).trans hl2
        have hk3 : W3.heap[w.heap.size]? = some (.deferred (some [])) := (hv3.2 _ (by omega) hn1).trans hk2
        have n2 : ¬ S3 (w.heap.size + 1) := fun h => (hs3 _ h).elim hn2 (by omega)
        have n1 : ¬ S3 w.heap.size := fun h => (hs3 _ h).elim hn1 (by omega)
        have := run_endRound (P := P) jump hl3
        rw [hrec] at this ⊢
        refine ⟨this, World.putObj_heap_same (Array.getElem?_eq_some_iff.1 hl3).1, (World.putObj_heap_other (by omega)).trans hk3, ?_, ?_, ?_, ?_, n1, n2, (Lv.refl _ _).putObj (fun _ => .inr ⟨by omega, _, hl3, rfl⟩) _⟩
        · have := hv3.size; simp [World.putObj]; omega
        · exact ((hv2.mono (fun g _ h => .inr (.inr h))).trans hv3 (fun g _ h => .inl h)).putObj (fun _ => .inr (.inr rfl)) _
        · rintro g (h | h)
          · rcases hs3 g h with h | h
            · exact .inl (.inl h)
            · exact .inr (by omega)
          · exact .inl (.inr h)
        · have hz := hv3.size
          rintro g (h | h)
          · have := hz3 g h; simp [World.putObj]; omega
          · simp [World.putObj]; omega
      rintro e a3 W3 hp
      cases e with
      | normal =>
        obtain ⟨S3, hv3, hs3, hz3, hi3⟩ := hp
        obtain ⟨hr, hl4, hk4, hle4, hv4, hs4, hz4, n1, n2, hv5⟩ := fin none S3 W3 hv3 hs3 hz3
        exact ⟨_, _, hr, _, hv4, hs4, hz4, .inl ⟨rfl, S3, ⟨hI _ _ _ _ hi3 hv5, fun g h => hz4 g (.inl h)⟩, n1, n2, rfl, hle4, hl4, hk4⟩⟩
      | ret =>
        obtain ⟨S3, hv3, hs3, hz3, hi3⟩ := hp
        obtain ⟨hr, hl4, hk4, hle4, hv4, hs4, hz4, n1, n2, hv5⟩ := fin (some .ret) S3 W3 hv3 hs3 hz3
        exact ⟨_, _, hr, _, hv4, hs4, hz4, .inr ⟨rfl, .ret, S3, hIx _ _ _ _ _ hi3 hv5, n1, n2, rfl, hle4, hl4, hk4⟩⟩
      | exit id =>
        obtain ⟨S3, hv3, hs3, hz3, hi3⟩ := hp
        obtain ⟨hr, hl4, hk4, hle4, hv4, hs4, hz4, n1, n2, hv5⟩ := fin (some (.exit id)) S3 W3 hv3 hs3 hz3
        exact ⟨_, _, hr, _, hv4, hs4, hz4, .inr ⟨rfl, .exit id, S3, hIx _ _ _ _ _ hi3 hv5, n1, n2, rfl, hle4, hl4, hk4⟩⟩
      | goto t =>
        obtain ⟨S3, hv3, hs3, hz3, hi3⟩ := hp
        obtain ⟨hr, hl4, hk4, hle4, hv4, hs4, hz4, n1, n2, hv5⟩ := fin (some (.goto t)) S3 W3 hv3 hs3 hz3
        exact ⟨_, _, hr, _, hv4, hs4, hz4, .inr ⟨rfl, .goto t, S3, hIx _ _ _ _ _ hi3 hv5, n1, n2, rfl, hle4, hl4, hk4⟩⟩
      | panic ch => exact hp.elim
      | outgrown => exact hp.elim
    · -- behind the iterator
      rintro e W2 ⟨⟨v, rfl⟩, (⟨S, S', hi, hn1, hn2, _, hle, hl, hk⟩ | ⟨pre, S, hpx, c, S', hi, hn1, hn2, _, hle, hl, hk⟩)⟩
      · have hv : Lv (fun g => It g ∨ (w.heap.size ≤ g ∧ NC W2 g)) W2 (W2.putObj (w.heap.size + 1) (.loop { rec .ready none with state := .exhausted })) := (Lv.refl _ _).putObj (fun _ => .inr ⟨by omega, _, hl, rfl⟩) _
        exact ⟨none, _, by have := run_endLoop (P := P) hl (by rw [hrec]; simp); rw [hrec] at this; rw [hrec] at hv ⊢; exact this, hdone _ S' _ (Nat.le_refl _) hn1 (hI _ _ _ _ hi.1 hv) ((World.putObj_heap_other (by omega)).trans hk)⟩
      · have hv : Lv (fun g => It g ∨ (w.heap.size ≤ g ∧ NC W2 g)) W2 (W2.putObj (w.heap.size + 1) (.loop { rec .done (some c) with state := .exhausted })) := (Lv.refl _ _).putObj (fun _ => .inr ⟨by omega, _, hl, rfl⟩) _
        exact ⟨some c, _, by have := run_endLoop (P := P) hl (by rw [hrec]; simp); rw [hrec] at this; rw [hrec] at hv ⊢; exact this, hstop _ c pre S' _ (Nat.le_refl _) hn1 hpx (hIx c _ _ _ _ hi hv) ((World.putObj_heap_other (by omega)).trans hk)⟩
end Go.Proofs.YtmmcjcaccicheaaGreatDoor
/- Hunks as values, lists of hunks in memory, and the contracts of the functions that look at their places and lengths alone. -/
namespace Go.Proofs.YtmmcjcaccicheaaGreatDoor
open Go.RowKit

/-- A hunk as a Go value: its place, and two slices. -/
structure Hk where
  at_ : Int
  oa : Option Addr
  ol : Nat
  oc : Nat
  na : Option Addr
  nl : Nat
  nc : Nat

abbrev Hk.cells (h : Hk) : List Value := [.int .i64 h.at_, .slice h.oa h.ol h.oc, .slice h.na h.nl h.nc]
abbrev Hk.val (h : Hk) : Value := .agg #[.int .i64 h.at_, .slice h.oa h.ol h.oc, .slice h.na h.nl h.nc]

/-- Its slices are no longer than the form's reach lets them be. -/
def Hk.small (h : Hk) : Prop := h.ol ≤ Reach ∧ h.nl ≤ Reach

theorem flat3_get {α : Type} (f : α → List Value) (hf : ∀ a, (f a).length = 3) : ∀ (l : List α) (k j : Nat) (a : α), l[k]? = some a → j < 3 → (l.flatMap f)[k * 3 + j]? = (f a)[j]?
  | [], k, j, a, h, _ => by simp at h
  | x :: l, 0, j, a, h, hj => by
    obtain rfl : x = a := by simpa using h
    rw [List.flatMap_cons, List.getElem?_append_left (by rw [hf]; omega)]
    simp
  | x :: l, k + 1, j, a, h, hj => by
    rw [List.flatMap_cons, List.getElem?_append_right (by rw [hf]; omega), hf]
    have := flat3_get f hf l k j a (by simpa using h) hj
    rw [← this]
    congr 1
    omega
theorem flat3_len {α : Type} (f : α → List Value) (hf : ∀ a, (f a).length = 3) (l : List α) : (l.flatMap f).length = l.length * 3 := by
  induction l with
  | nil => rfl
  | cons x l ih => rw [List.flatMap_cons, List.length_append, ih, hf, List.length_cons]; omega

/-- From address A on lie the n hunks hs. -/
def Hks (w : World) (A : Option Addr) (n : Nat) (hs : List Hk) : Prop := hs.length = n ∧ (∀ h ∈ hs, h.small) ∧ Cells w A (hs.flatMap Hk.cells)

section
variable {w w' : World} {A : Option Addr} {n : Nat} {hs : List Hk}
theorem Hks.ext (h : Hks w A n hs) (e : Ext w w') : Hks w' A n hs := ⟨h.1, h.2.1, h.2.2.ext e⟩
theorem Hks.get (h : Hks w A n hs) {k : Nat} (hk : k < n) : ∃ b off x, A = some ⟨b, off, none⟩ ∧ b < w.heap.size ∧ hs[k]? = some x ∧ x.small ∧ w.cell? ⟨b, off + k * 3, none⟩ = some (.int .i64 x.at_) ∧
    w.cell? ⟨b, off + k * 3 + 1, none⟩ = some (.slice x.oa x.ol x.oc) ∧ w.cell? ⟨b, off + k * 3 + 2, none⟩ = some (.slice x.na x.nl x.nc) := by
  have hl : k < hs.length := by rw [h.1]; exact hk
  have hx : hs[k]? = some hs[k] := List.getElem?_eq_getElem hl
  obtain ⟨b, off, h1, h2, h3⟩ := h.2.2.get (k := k * 3) (by rw [flat3_len _ (fun _ => rfl)]; omega)
  have g := fun j hj => flat3_get Hk.cells (fun _ => rfl) hs k j _ hx hj
  exact ⟨b, off, hs[k], h1, h2, hx, h.2.1 _ (List.getElem_mem hl), h3 (k * 3) _ (by simpa using g 0 (by omega)), by simpa [Nat.add_assoc] using h3 (k * 3 + 1) _ (by simpa using g 1 (by omega)), by simpa [Nat.add_assoc] using h3 (k * 3 + 2) _ (by simpa using g 2 (by omega))⟩
end

set_option maxHeartbeats 400000 in
theorem end_any (h : Hk) (w : World) (h0 : 0 ≤ h.at_) (h1 : h.at_ ≤ 1099511627776) (hs : h.small) :
    Calls Tryz.prog 57 #[h.val] w fun e w' => e = .returned (.int .i64 (h.at_ + h.ol)) ∧ Ext w w' := by
  obtain ⟨hs1, hs2⟩ := hs
  unfold Reach at hs1 hs2
  go_enter Tryz.func57, Tryz.ntmps57
  go_wp2
  go_ret
  exact ⟨rfl, (Ext.refl _).alloc _⟩

/-- The error of a list of hunks, where e is the end of what stands ahead of it. -/
def checkFrom (e : Int) : List Hk → Int
  | [] => 0
  | h :: t => if h.at_ < 0 ∨ 1099511627776 < h.at_ then 2 else if h.ol + h.nl = 0 then 1 else if h.at_ ≤ e then 9 else checkFrom (h.at_ + h.ol) t

/-- What holds of a check when k hunks have passed, the last of which ends at e. -/
def ChkAt (hs : List Hk) (k : Nat) (e : Int) : Prop :=
  checkFrom (-1) hs = checkFrom e (hs.drop k) ∧ (k = 0 → e = -1) ∧ ∀ j x, j + 1 = k → hs[j]? = some x → 0 ≤ x.at_ ∧ x.at_ ≤ 1099511627776 ∧ e = x.at_ + x.ol
theorem ChkAt.start (hs : List Hk) : ChkAt hs 0 (-1) := ⟨rfl, fun _ => rfl, fun _ _ h _ => by omega⟩
theorem ChkAt.step {hs : List Hk} {k : Nat} {e : Int} {x : Hk} (h : ChkAt hs k e) (hx : hs[k]? = some x) (h1 : 0 ≤ x.at_) (h2 : x.at_ ≤ 1099511627776) (h3 : ¬ x.ol + x.nl = 0) (h4 : ¬ x.at_ ≤ e) : ChkAt hs (k + 1) (x.at_ + x.ol) := by
  refine ⟨?_, fun h => by omega, fun j z hj hz => ?_⟩
  · rw [h.1, drop_of hx, checkFrom, if_neg (by omega), if_neg h3, if_neg h4]
  · obtain rfl : j = k := by omega
    rw [hx] at hz
    cases hz
    exact ⟨h1, h2, rfl⟩
theorem ChkAt.none {hs : List Hk} {k : Nat} {e : Int} (h : ChkAt hs k e) (hk : hs.length ≤ k) : 0 = checkFrom (-1) hs := by
  rw [h.1, List.drop_of_length_le hk]; rfl
theorem ChkAt.stop {hs : List Hk} {k : Nat} {e r : Int} {x : Hk} (h : ChkAt hs k e) (hx : hs[k]? = some x) (hr : checkFrom e (x :: hs.drop (k + 1)) = r) : r = checkFrom (-1) hs := by
  rw [h.1, drop_of hx, hr]

set_option maxHeartbeats 1000000 in
theorem hcheck_any (A : Option Addr) (n c : Nat) (hs : List Hk) (w : World) (hh : Hks w A n hs) (hn : n ≤ Reach) :
    Calls Tryz.prog 29 #[.slice A n c] w fun e w' => e = .returned (.int .i64 (checkFrom (-1) hs)) ∧ Ext w w' := by
  unfold Reach at hn
  have HH := Lib.hid hh; clear hh
  go_enter Tryz.func29, Tryz.ntmps29
  go_wp2
  go_loopw [7] (fun i wr => ∃ (k : Nat) (e : Int), k ≤ n ∧ i = .int .i64 k ∧ ChkAt hs k e ∧ Ext w wr) (fun i _ => n - (intOf i).toNat)
  case atStart => exact ⟨0, -1, Nat.zero_le _, rfl, ChkAt.start _, Ext.refl _⟩
  case round =>
    obtain ⟨k, e, hk, rfl, h1, hE⟩ := hrel
    have HE := Lib.hid hE; have H1 := Lib.hid h1; clear hE h1
    by_cases hlt : k < n
    · obtain ⟨b, off, x, rfl, hb, hx, hxs, hc0, hc1, hc2⟩ := (HH.out.ext HE.out).get hlt
      have HX := Lib.hid hx; clear hx
      obtain ⟨hx1, hx2⟩ := hxs
      unfold Reach at hx1 hx2
      by_cases hA : x.at_ < 0
      · go_wp2
        go_ret
        exact ⟨ret_int (H1.out.stop HX.out (by rw [checkFrom, if_pos (.inl hA)])), HE.out.alloc _⟩
      by_cases hB : 1099511627776 < x.at_
      · go_wp2
        go_ret
        exact ⟨ret_int (H1.out.stop HX.out (by rw [checkFrom, if_pos (.inr hB)])), HE.out.alloc _⟩
      by_cases hC : x.ol + x.nl = 0
      · have hC' : (((x.ol : Int) + x.nl) == 0) = true := by rw [beq_iff_eq]; omega
        have HC := Lib.hid hC; clear hC
        go_wp2
        go_ret
        exact ⟨ret_int (H1.out.stop HX.out (by rw [checkFrom, if_neg (by omega), if_pos HC.out])), HE.out.alloc _⟩
      have hC' : (((x.ol : Int) + x.nl) == 0) = false := by rw [beq_eq_false_iff_ne]; omega
      have HC := Lib.hid hC; clear hC
      by_cases hk0 : k = 0
      · subst hk0
        obtain rfl : e = -1 := H1.out.2.1 rfl
        simp only [Nat.zero_mul, Nat.add_zero] at hc0 hc1 hc2
        go_wp2
        refine wp_region_text (fun wx => Ext wr wx) [0,1,2,3,4,5,6,7,8,9,10,11,12,13] (by kernel_rfl) (Stab.ext _) ((Ext.refl _).alloc _).drew (by kernel_rfl) (fun _ d _ _ _ h => by cases d <;> exact h) ?_
        iterate 3
          refine wpTk_want rfl (Eq.refl true) ?_
          apply Exists.intro
          refine ⟨fun wx hx => ?_, ?_⟩
          · go_simp
            with_reducible exact gives_ok _ _ _
          simp only [Act.put, List.setIfInBounds_toArray, List.set_cons_zero, List.set_cons_succ]
        iterate 9
          refine wpTk_skip rfl (Eq.refl false) ?_
          simp only [Act.put, List.setIfInBounds_toArray, List.set_cons_zero, List.set_cons_succ]
        iterate 2
          refine wpTk_want rfl (Eq.refl true) ?_
          apply Exists.intro
          refine ⟨fun wx hx => ?_, ?_⟩
          · go_simp
            with_reducible exact gives_ok _ _ _
          simp only [Act.put, List.setIfInBounds_toArray, List.set_cons_zero, List.set_cons_succ]
        refine wpTk_nil ?_
        intro wx hE2
        go_wp2
        go_roundw
        case rel => exact ⟨1, x.at_ + x.ol, by omega, by go_num, H1.out.step HX.out (by omega) (by omega) HC.out (by omega), HE.out.trans hE2⟩
        case measure => simp [intOf]; omega
      have hk1 : 0 < k := by omega
      obtain ⟨b', off', y, hA', hb', hy, hys, hd0, hd1, hd2⟩ := (HH.out.ext HE.out).get (k := k - 1) (by omega)
      obtain ⟨rfl, rfl⟩ : b = b' ∧ off = off' := by simpa using hA'
      have hyE := H1.out.2.2 (k - 1) y (by omega) hy
      have HY := Lib.hid hy; clear hy
      have hidx : ((k : Int) - 1).toNat = k - 1 := by omega
      have hwr : IntKind.i64.wrap ((k : Int) - 1) = (k : Int) - 1 := IntWalk.i64_in _ (by omega)
      have hlo : (1 : Int) ≤ (k : Int) := by omega
      have hhi : (k : Int) - 1 < (n : Int) := by omega
      obtain ⟨hy1, hy2, hy3⟩ := hyE
      have HYE := Lib.hid hy3; clear hy3
      have hys' := hys
      obtain ⟨hys1, hys2⟩ := hys
      unfold Reach at hys1 hys2
      have HS := Lib.hid hys'; clear hys'
      by_cases hD : x.at_ ≤ y.at_ + y.ol
      all_goals
        go_wp2
        refine wp_region_text (fun wx => Ext wr wx ∧ wx.cell? ⟨wr.heap.size, 0, none⟩ = some (.int .i64 x.at_) ∧ wx.cell? ⟨b, off + (k - 1) * 3, none⟩ = some (.int .i64 y.at_) ∧ wx.cell? ⟨b, off + (k - 1) * 3 + 1, none⟩ = some (.slice y.oa y.ol y.oc) ∧ wx.cell? ⟨b, off + (k - 1) * 3 + 2, none⟩ = some (.slice y.na y.nl y.nc)) [0,1,2,3,4,5,6,7,8,9,10,11,12,13] (by kernel_rfl)
          ((Stab.ext _).and ((Stab.cell _ _).and ((Stab.cell _ _).and ((Stab.cell _ _).and (Stab.cell _ _))))) ⟨((Ext.refl _).alloc _).drew, by go_simp, by go_simp, by go_simp, by go_simp⟩ (by kernel_rfl) (fun _ d _ _ _ h => by cases d <;> exact h) ?_
        iterate 14
          refine wpTk_want rfl (Eq.refl true) ?_
          apply Exists.intro
          refine ⟨fun wx hx => ?_, ?_⟩
          · obtain ⟨hE, g1, g2, g3, g4⟩ := hx
            go_simp
            first | with_reducible exact gives_ok _ _ _ | exact gives_call _ _ _ (end_any y _ hy1 hy2 HS.out)
          simp only [Act.put, List.setIfInBounds_toArray, List.set_cons_zero, List.set_cons_succ]
        refine wpTk_nil ?_
        rintro wx ⟨hE2, g1, g2, g3, g4⟩
        clear g1 g2 g3 g4
      · go_wp2
        go_ret
        exact ⟨ret_int (H1.out.stop HX.out (by rw [checkFrom, if_neg (by omega), if_neg HC.out, HYE.out, if_pos hD])), HE.out.trans hE2⟩
      · go_wp2
        go_roundw
        case rel => exact ⟨k + 1, x.at_ + x.ol, by omega, by go_num, H1.out.step HX.out (by omega) (by omega) HC.out (by rw [HYE.out]; omega), HE.out.trans hE2⟩
        case measure => simp [intOf]; omega
    · go_wp2
      go_ret
      exact ⟨ret_int (H1.out.none (by rw [HH.out.1]; omega)), HE.out⟩

end Go.Proofs.YtmmcjcaccicheaaGreatDoor
/- Unified differences in plain Lean: bodies of blocks, segments, hunks, what Blocks computes. No condition. -/
namespace Go.Proofs.YtmmcjcaccicheaaGreatDoor
/-- The sign of a line of a block. -/
inductive Tg | ctx | del | add
deriving DecidableEq
structure Ln where
  t : Tg
  s : ByteArray
abbrev Bdy := List Ln
def sgn : Tg → UInt8 | .ctx => 32 | .del => 45 | .add => 43
def oldB : Bdy → Lns
  | [] => []
  | x :: r => match x.t with | .add => oldB r | _ => x.s :: oldB r
def newB : Bdy → Lns
  | [] => []
  | x :: r => match x.t with | .del => newB r | _ => x.s :: newB r
/-- The line as it stands in the block. -/
def lnS (x : Ln) : ByteArray := ⟨(sgn x.t :: x.s.data.toList).toArray⟩
def tg (t : Tg) (l : Lns) : Bdy := l.map (Ln.mk t)
theorem oldB_app (a b : Bdy) : oldB (a ++ b) = oldB a ++ oldB b := by
  induction a with
  | nil => rfl
  | cons x r ih => rcases x with ⟨t, s⟩; cases t <;> simp [oldB, ih]
theorem newB_app (a b : Bdy) : newB (a ++ b) = newB a ++ newB b := by
  induction a with
  | nil => rfl
  | cons x r ih => rcases x with ⟨t, s⟩; cases t <;> simp [newB, ih]
theorem oldB_ctx (l : Lns) : oldB (tg .ctx l) = l := by
  induction l with
  | nil => rfl
  | cons x r ih => simpa [tg, oldB] using ih
theorem newB_ctx (l : Lns) : newB (tg .ctx l) = l := by
  induction l with
  | nil => rfl
  | cons x r ih => simpa [tg, newB] using ih
theorem oldB_del (l : Lns) : oldB (tg .del l) = l := by
  induction l with
  | nil => rfl
  | cons x r ih => simpa [tg, oldB] using ih
theorem newB_del (l : Lns) : newB (tg .del l) = [] := by
  induction l with
  | nil => rfl
  | cons x r ih => simpa [tg, newB] using ih
theorem oldB_add (l : Lns) : oldB (tg .add l) = [] := by
  induction l with
  | nil => rfl
  | cons x r ih => simpa [tg, oldB] using ih
theorem newB_add (l : Lns) : newB (tg .add l) = l := by
  induction l with
  | nil => rfl
  | cons x r ih => simpa [tg, newB] using ih

/-- A hunk, as a value. -/
structure Hp where
  at_ : Nat
  old : Lns
  new : Lns
/-- Lines that are kept, and the hunk behind them. -/
structure Sg where
  k : Lns
  o : Lns
  n : Lns
def oldG : List Sg → Lns
  | [] => []
  | s :: r => s.k ++ s.o ++ oldG r
def newG : List Sg → Lns
  | [] => []
  | s :: r => s.k ++ s.n ++ newG r
def hksG (x : Nat) : List Sg → List Hp
  | [] => []
  | s :: r => ⟨x + s.k.length, s.o, s.n⟩ :: hksG (x + s.k.length + s.o.length) r
/-- Each hunk replaces something; each but the first has a kept line ahead. -/
def okG : List Sg → Prop
  | [] => True
  | s :: r => s.o.length + s.n.length ≠ 0 ∧ (∀ z ∈ r, 0 < z.k.length) ∧ okG r
def swG (l : List Sg) : List Sg := l.map fun s => ⟨s.k, s.n, s.o⟩
theorem oldG_sw (l : List Sg) : oldG (swG l) = newG l := by
  induction l with
  | nil => rfl
  | cons s r ih => simp [swG, oldG, newG] at *; exact ih
theorem newG_sw (l : List Sg) : newG (swG l) = oldG l := by
  induction l with
  | nil => rfl
  | cons s r ih => simp [swG, oldG, newG] at *; exact ih
theorem okG_sw (l : List Sg) (h : okG l) : okG (swG l) := by
  induction l with
  | nil => trivial
  | cons s r ih =>
    obtain ⟨h1, h2, h3⟩ := h
    refine ⟨by show s.n.length + s.o.length ≠ 0; omega, ?_, ih h3⟩
    intro z hz
    obtain ⟨y, hy, rfl⟩ := List.mem_map.1 hz
    exact h2 y hy
theorem oldG_app (a b : List Sg) : oldG (a ++ b) = oldG a ++ oldG b := by
  induction a with
  | nil => rfl
  | cons s r ih => simp [oldG, ih]
theorem newG_app (a b : List Sg) : newG (a ++ b) = newG a ++ newG b := by
  induction a with
  | nil => rfl
  | cons s r ih => simp [newG, ih]

/-! ### Blocks -/
/-- A block, as a value. -/
structure Bk where
  oa : Nat
  ol : Nat
  na : Nat
  nl : Nat
  ls : Bdy
/-- Lines that are kept, and the body of the block behind them. -/
abbrev GB := Lns × Bdy
def oldS : List GB → Lns
  | [] => []
  | p :: r => p.1 ++ oldB p.2 ++ oldS r
def newS : List GB → Lns
  | [] => []
  | p :: r => p.1 ++ newB p.2 ++ newS r
def bksS (x y : Nat) : List GB → List Bk
  | [] => []
  | p :: r => ⟨x + p.1.length, (oldB p.2).length, y + p.1.length, (newB p.2).length, p.2⟩ :: bksS (x + p.1.length + (oldB p.2).length) (y + p.1.length + (newB p.2).length) r
/-- Does the body change anything? -/
def chg (b : Bdy) : Prop := ∃ x ∈ b, x.t ≠ .ctx
def okS : List GB → Prop
  | [] => True
  | p :: r => chg p.2 ∧ (∀ z ∈ r, 0 < z.1.length) ∧ okS r

/-! ### What Blocks computes -/
def bodyV (a : Lns) (e : Nat) : Nat → List Hp → Bdy
  | at_, [] => tg .ctx ((a.drop at_).take (e - at_))
  | at_, h :: r => tg .ctx ((a.drop at_).take (h.at_ - at_)) ++ tg .del h.old ++ tg .add h.new ++ bodyV a e (h.at_ + h.old.length) r
def sumD : List Hp → Int
  | [] => 0
  | h :: r => (h.new.length : Int) - h.old.length + sumD r
def lastE : Nat → List Hp → Nat
  | e, [] => e
  | _, h :: r => lastE (h.at_ + h.old.length) r
/-- The block of a group of hunks. -/
def blkV (a : Lns) (c : Nat) (shift : Int) (h : Hp) (r : List Hp) : Bk :=
  let at_ := h.at_ - c
  let e := min a.length (lastE 0 (h :: r) + c)
  ⟨at_, e - at_, (at_ + shift).toNat, ((e : Int) - at_ + sumD (h :: r)).toNat, bodyV a e at_ (h :: r)⟩
/-- The groups of hunks that share a block; acc is the group that is open. -/
def grpV (c : Nat) : List Hp → List Hp → List (List Hp)
  | _, [] => []
  | acc, [h] => [acc ++ [h]]
  | acc, h :: h2 :: r => if h2.at_ - h.at_ - h.old.length ≤ 2 * c then grpV c (acc ++ [h]) (h2 :: r) else (acc ++ [h]) :: grpV c [] (h2 :: r)
def blksV (a : Lns) (c : Nat) : Int → List (List Hp) → List Bk
  | _, [] => []
  | s, [] :: r => blksV a c s r
  | s, (h :: t) :: r => blkV a c s h t :: blksV a c (s + sumD (h :: t)) r
end Go.Proofs.YtmmcjcaccicheaaGreatDoor

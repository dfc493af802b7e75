/- PaRng HiIter MyCert: parts of the proof of TopDifferences, one text behind the other. No condition. -/
import Derived.Test.YtmmcjcaccicheaaGreatDoorT03
import Derived.Test.YtmmcjcaccicheaaGreatDoorT06
/- The law for a range over a function whose iterator turns memory of its own from round to round. No condition. -/
namespace Go.Proofs.YtmmcjcaccicheaaGreatDoor
open Go.RowKit
/-- A word that stands whatever the blocks from n on become, but those of S. -/
def Firm2 {α : Type} (n : Nat) (J : List α → (Nat → Prop) → World → Prop) : Prop := ∀ pre S W W', J pre S W → Lv (fun g => n ≤ g ∧ ¬ S g) W W' → J pre S W'
/-- The iterator g yields xs, one after the other; it may turn new memory of its own from round to round. -/
def Iter2 {α : Type} (P : Program) (g : Nat) (lb : Array Value) (Enc : α → Array Value → (Nat → Prop) → World → Prop) (xs : List α) (Pre : (Nat → Prop) → World → Prop) : Prop :=
  ∀ (l : Nat) (J Jx : List α → (Nat → Prop) → World → Prop) (S : Nat → Prop) (W : World), Pre S W → (∀ g, S g → g < W.heap.size) → Firm2 W.heap.size J → Firm2 W.heap.size Jx →
    (∀ pre x vs S1 W1, J pre S1 W1 → (pre ++ [x]) <+: xs → Enc x vs S1 W1 → Round P l vs J Jx (pre ++ [x]) S1 W1) → J [] S W →
    CallsIn Fence.wide 0 P g (#[.func (.yield l) #[] #[]] ++ lb) W fun e W' => (∃ v, e = .returned v) ∧ ((∃ S', J xs S' W') ∨ ∃ pre S', pre <+: xs ∧ Jx pre S' W')
theorem wpIn_range3 {α : Type} {P : Program} {g : Operand} {ps : Array Tmp} {assign body : Code} {Q : Exit → Act → World → Prop} {a : Act} {w : World}
    {gf : Nat} {lb : Array Value} (hg : a.eval g = .func (.func gf) #[] lb) (eg : ∀ args w, (callFunc gf args).run P w = .ok (.enter gf args) w)
    {Enc : α → Array Value → (Nat → Prop) → World → Prop} {xs : List α} {Pre : (Nat → Prop) → World → Prop} (hit : Iter2 P gf lb Enc xs Pre) (hps : ∀ x vs S W, Enc x vs S W → vs.size = ps.size)
    (hEv : ∀ x vs S W W', Enc x vs S W → Lv S W W' → Enc x vs S W') (hEs : ∀ x vs (S S' : Nat → Prop) W, Enc x vs S W → (∀ g, S' g → S g) → Enc x vs S' W)
    (I : List α → (Nat → Prop) → World → Prop) (Ix : Code → List α → (Nat → Prop) → World → Prop) (hI : Firm2 w.heap.size I) (hIx : ∀ c, Firm2 w.heap.size (Ix c)) (S0 : Nat → Prop) (h0 : I [] S0 w) (hS0 : ∀ g, S0 g → g < w.heap.size)
    (hpre : ∀ S W, Ext w W → (∀ g, g < w.heap.size → S g → S0 g) → Pre S W) (Asg : α → Array Value → World → Act → World → Prop) (hAsg : ∀ x vs W a₁ W', Asg x vs W a₁ W' → Ext W W')
    (hassign : ∀ (l : Nat) (x : α) (vs : Array Value) (S : Nat → Prop) (W : World) (K : Act → World → Prop), Enc x vs S W → (∀ a₁ W', Asg x vs W a₁ W' → K a₁ W') →
      assign.wpIn (Fence.wide.inRound l) 0 P (Exit.then K (fun _ _ _ => False)) { tmps := (ps.zip vs).foldl (fun t (p, v) => t.setIfInBounds p v) a.tmps, defers := [] } W)
    (hbody : ∀ (l : Nat) (pre : List α) (x : α) (vs : Array Value) (S : Nat → Prop) (W0 W' W : World) (a₁ : Act), Asg x vs W0 a₁ W' → w.heap.size ≤ W0.heap.size → Lv (fun g => w.heap.size ≤ g ∧ NC W' g) W' W → I pre S W → w.heap.size ≤ W.heap.size → (pre ++ [x]) <+: xs → Enc x vs S W → (∀ g, S g → g < W0.heap.size) → body.wpIn (Fence.wide.inRound l) 0 P (bodyQ I Ix (pre ++ [x]) S W) a₁ W)
    (hdone : ∀ (D : Nat) (S : Nat → Prop) (W : World), w.heap.size ≤ D → ¬ S D → I xs S W → W.heap[D]? = some (.deferred (some [])) → Q .normal { a with defers := { target := .collected D, args := #[] } :: a.defers } W)
    (hstop : ∀ (D : Nat) (c : Code) (pre : List α) (S : Nat → Prop) (W : World), w.heap.size ≤ D → ¬ S D → pre <+: xs → Ix c pre S W → W.heap[D]? = some (.deferred (some [])) → c.wpIn Fence.wide 0 P Q { a with defers := { target := .collected D, args := #[] } :: a.defers } W) :
    (Code.rangeFunc g ps assign body).wpIn Fence.wide 0 P Q a w := by
  refine wpIn_rangeFunc ?_
  intro fn hfn
  obtain ⟨rec, hrec⟩ : ∃ rec : LoopState → Option Code → Loop, rec = fun st pe => { state := st, pending := pe, fn, tmps := a.tmps, params := ps, assign, body, defers := w.heap.size } := ⟨_, rfl⟩
  obtain ⟨W1, hW1⟩ : ∃ W1, (w.alloc (.deferred (some []))).alloc (.loop (rec .ready none)) = W1 := ⟨_, rfl⟩
  have hsz : W1.heap.size = w.heap.size + 2 := by rw [← hW1]; simp
  have hL1 : W1.heap[w.heap.size + 1]? = some (.loop (rec .ready none)) := by
    rw [← hW1]; have := World.alloc_heap_new (w.alloc (.deferred (some []))) (.loop (rec .ready none)); rwa [World.size_alloc] at this
  have hK1 : W1.heap[w.heap.size]? = some (.deferred (some [])) := by
    rw [← hW1]; exact (Below.heap_alloc _ _ _ (by simp)).trans (World.alloc_heap_new w _)
  have hE1 : Ext w W1 := by rw [← hW1]; exact ((Ext.refl w).alloc _).alloc _
  have hI1 : I [] S0 W1 := hI _ _ _ _ h0 (Lv.of_ext hE1)
  refine ⟨w.heap.size + 1, [{ target := .collected w.heap.size, args := #[] }], W1, { target := .fn (.func gf) lb, args := #[.func (.yield (w.heap.size + 1)) #[] #[]] }, W1, gf,
    #[.func (.yield (w.heap.size + 1)) #[] #[]] ++ lb, W1, ?_, ?_, ?_, ?_, fun h => (by cases h), ?_⟩
  · rw [← hW1, hrec]; exact run_enterLoop_outer _ _ _ _ _
  · simp only [resolve, hg]
    simp [go_sem]
  · intro f' _; trivial
  · simp [invoke, go_sem, eg]
  · refine (hit (w.heap.size + 1)
      (fun pre S W => ∃ S', (I pre S' W ∧ ∀ g, S' g → g < W.heap.size) ∧ ¬ S' w.heap.size ∧ ¬ S' (w.heap.size + 1) ∧ (S = fun g => S' g ∨ g = w.heap.size ∨ g = w.heap.size + 1) ∧ W1.heap.size ≤ W.heap.size ∧ W.heap[w.heap.size + 1]? = some (.loop (rec .ready none)) ∧ W.heap[w.heap.size]? = some (.deferred (some [])))
      (fun pre S W => ∃ c S', Ix c pre S' W ∧ ¬ S' w.heap.size ∧ ¬ S' (w.heap.size + 1) ∧ (S = fun g => S' g ∨ g = w.heap.size ∨ g = w.heap.size + 1) ∧ W1.heap.size ≤ W.heap.size ∧ W.heap[w.heap.size + 1]? = some (.loop (rec .done (some c))) ∧ W.heap[w.heap.size]? = some (.deferred (some [])))
      (fun g => S0 g ∨ g = w.heap.size ∨ g = w.heap.size + 1) W1 (hpre _ _ hE1 (fun g hg h => h.elim id (fun h => by omega))) (by rintro g (h | h); have := hS0 _ h; omega; omega) ?_ ?_ ?_
      ⟨S0, ⟨hI1, fun g h => by have := hS0 g h; omega⟩, fun h => absurd (hS0 _ h) (by omega), fun h => absurd (hS0 _ h) (by omega), rfl, Nat.le_refl _, hL1, hK1⟩).mono ?_
    · rintro pre S A B ⟨S', hi, hn1, hn2, rfl, hle, hl, hk⟩ hv
      refine ⟨S', ⟨hI _ _ _ _ hi.1 (hv.mono (fun g _ h => ⟨by have := h.1; omega, fun hs => h.2 (.inl hs)⟩)), fun g h => Nat.lt_of_lt_of_le (hi.2 g h) hv.size⟩, hn1, hn2, rfl, Nat.le_trans hle hv.size, ?_, ?_⟩
      · exact (hv.2 _ (Array.getElem?_eq_some_iff.1 hl).1 (fun h => h.2 (.inr (.inr rfl)))).trans hl
      · exact (hv.2 _ (Array.getElem?_eq_some_iff.1 hk).1 (fun h => h.2 (.inr (.inl rfl)))).trans hk
    · rintro pre S A B ⟨c, S', hi, hn1, hn2, rfl, hle, hl, hk⟩ hv
      refine ⟨c, S', hIx c _ _ _ _ hi (hv.mono (fun g _ h => ⟨by have := h.1; omega, fun hs => h.2 (.inl hs)⟩)), hn1, hn2, rfl, Nat.le_trans hle hv.size, ?_, ?_⟩
      · exact (hv.2 _ (Array.getElem?_eq_some_iff.1 hl).1 (fun h => h.2 (.inr (.inr rfl)))).trans hl
      · exact (hv.2 _ (Array.getElem?_eq_some_iff.1 hk).1 (fun h => h.2 (.inr (.inl rfl)))).trans hk
    · -- one round
      rintro pre x vs S W ⟨S', hi, hn1, hn2, rfl, hle, hl, hk⟩ hpx henc
      have hlt : w.heap.size + 1 < W.heap.size := (Array.getElem?_eq_some_iff.1 hl).1
      have hy := run_yield (P := P) (args := vs) hl (by rw [hrec]; exact hps x _ _ _ henc)
      rw [hrec] at hy
      refine ⟨fn, _, assign, body, hy, roundIn_of_wpIn hfn (hassign _ x vs _ W _ henc fun a₁ Wa hasg => ?_)⟩
      have hEa := hAsg _ _ _ _ _ hasg
      have hla : Wa.heap[w.heap.size + 1]? = some (.loop (rec .ready none)) := hEa.block hl
      have hka : Wa.heap[w.heap.size]? = some (.deferred (some [])) := hEa.block hk
      refine ⟨_, run_beginRound hla (by rw [hrec]), ?_⟩
      have hlta : w.heap.size + 1 < Wa.heap.size := Nat.lt_of_lt_of_le hlt hEa.size
      obtain ⟨W2, hW2⟩ : ∃ W2, Wa.putObj (w.heap.size + 1) (.loop { rec .ready none with state := .busy }) = W2 := ⟨_, rfl⟩
      have hl2 : W2.heap[w.heap.size + 1]? = some (.loop { rec .ready none with state := .busy }) := by rw [← hW2]; exact World.putObj_heap_same hlta
      have hk2 : W2.heap[w.heap.size]? = some (.deferred (some [])) := by rw [← hW2]; exact (World.putObj_heap_other (by omega)).trans hka
      have hva : Lv (fun g => g = w.heap.size + 1) Wa W2 := by rw [← hW2]; exact Lv.putObj (S := fun g => g = w.heap.size + 1) (Lv.refl _ _) (fun _ => rfl) _
      have hv2 : Lv (fun g => g = w.heap.size + 1) W W2 := (Lv.of_ext hEa).trans hva (fun _ _ h => h)
      have hs2 : W.heap.size ≤ W2.heap.size := hv2.size
      have hi2 : I pre S' W2 := hI _ _ _ _ hi.1 (hv2.mono (fun g _ h => by subst h; exact ⟨by omega, hn2⟩))
      have henc2 : Enc x vs S' W2 := hEs _ _ _ _ _ (hEv _ _ _ _ _ henc (hv2.mono (fun g _ h => .inr (.inr h)))) (fun g h => .inl h)
      have hvb : Lv (fun g => w.heap.size ≤ g ∧ NC Wa g) Wa W2 := hva.mono (fun g _ h => by subst h; exact ⟨by omega, _, hla, rfl⟩)
      rw [hW2]
      refine wpIn_mono (hbody _ pre x vs S' W Wa W2 a₁ hasg (by omega) hvb hi2 (by omega) hpx henc2 hi.2) ?_
      have fin : ∀ (jump : Option Code) (S3 : Nat → Prop) (W3 : World), Lv S' W2 W3 → (∀ g, S3 g → S' g ∨ W2.heap.size ≤ g) → (∀ g, S3 g → g < W3.heap.size) →
          (Instr.endRound (w.heap.size + 1) jump).run P W3 = .ok (.bool jump.isNone) (W3.putObj (w.heap.size + 1) (.loop (rec (if jump.isNone then .ready else .done) jump))) ∧
          (W3.putObj (w.heap.size + 1) (.loop (rec (if jump.isNone then .ready else .done) jump))).heap[w.heap.size + 1]? = some (.loop (rec (if jump.isNone then .ready else .done) jump)) ∧
          (W3.putObj (w.heap.size + 1) (.loop (rec (if jump.isNone then .ready else .done) jump))).heap[w.heap.size]? = some (.deferred (some [])) ∧
          W1.heap.size ≤ (W3.putObj (w.heap.size + 1) (.loop (rec (if jump.isNone then .ready else .done) jump))).heap.size ∧
          Lv (fun g => S' g ∨ g = w.heap.size ∨ g = w.heap.size + 1) W (W3.putObj (w.heap.size + 1) (.loop (rec (if jump.isNone then .ready else .done) jump))) ∧
          (∀ g, (S3 g ∨ g = w.heap.size ∨ g = w.heap.size + 1) → (S' g ∨ g = w.heap.size ∨ g = w.heap.size + 1) ∨ W.heap.size ≤ g) ∧
          (∀ g, (S3 g ∨ g = w.heap.size ∨ g = w.heap.size + 1) → g < (W3.putObj (w.heap.size + 1) (.loop (rec (if jump.isNone then .ready else .done) jump))).heap.size) ∧ ¬ S3 w.heap.size ∧ ¬ S3 (w.heap.size + 1) ∧
          Lv (fun g => w.heap.size ≤ g ∧ ¬ S3 g) W3 (W3.putObj (w.heap.size + 1) (.loop (rec (if jump.isNone then .ready else .done) jump))) := fun jump S3 W3 hv3 hs3 hz3 => by
        have hl3 : W3.heap[w.heap.size + 1]? = some (.loop { rec .ready none with state := .busy }) := (hv3.2 _ (by omega) hn2).trans hl2
        have hk3 : W3.heap[w.heap.size]? = some (.deferred (some [])) := (hv3.2 _ (by omega) hn1).trans hk2
        have n2 : ¬ S3 (w.heap.size + 1) := fun h => (hs3 _ h).elim hn2 (by omega)
        have n1 : ¬ S3 w.heap.size := fun h => (hs3 _ h).elim hn1 (by omega)
        have := run_endRound (P := P) jump hl3
        rw [hrec] at this ⊢
        refine ⟨this, World.putObj_heap_same (Array.getElem?_eq_some_iff.1 hl3).1, (World.putObj_heap_other (by omega)).trans hk3, ?_, ?_, ?_, ?_, n1, n2, (Lv.refl _ _).putObj (fun _ => ⟨by omega, n2⟩) _⟩
        · have := hv3.size; simp [World.putObj]; omega
        · exact ((hv2.mono (fun g _ h => .inr (.inr h))).trans hv3 (fun g _ h => .inl h)).putObj (fun _ => .inr (.inr rfl)) _
        · rintro g (h | h)
          · rcases hs3 g h with h | h
            · exact .inl (.inl h)
            · exact .inr (by omega)
          · exact .inl (.inr h)
        · have hz := hv3.size
          rintro g (h | h)
          · have := hz3 g h; simp [World.putObj]; omega
          · simp [World.putObj]; omega
      rintro e a3 W3 hp
      cases e with
      | normal =>
        obtain ⟨S3, hv3, hs3, hz3, hi3⟩ := hp
        obtain ⟨hr, hl4, hk4, hle4, hv4, hs4, hz4, n1, n2, hv5⟩ := fin none S3 W3 hv3 hs3 hz3
        exact ⟨_, _, hr, _, hv4, hs4, hz4, .inl ⟨rfl, S3, ⟨hI _ _ _ _ hi3 hv5, fun g h => hz4 g (.inl h)⟩, n1, n2, rfl, hle4, hl4, hk4⟩⟩
      | ret =>
        obtain ⟨S3, hv3, hs3, hz3, hi3⟩ := hp
        obtain ⟨hr, hl4, hk4, hle4, hv4, hs4, hz4, n1, n2, hv5⟩ := fin (some .ret) S3 W3 hv3 hs3 hz3
        exact ⟨_, _, hr, _, hv4, hs4, hz4, .inr ⟨rfl, .ret, S3, hIx _ _ _ _ _ hi3 hv5, n1, n2, rfl, hle4, hl4, hk4⟩⟩
      | exit id =>
        obtain ⟨S3, hv3, hs3, hz3, hi3⟩ := hp
        obtain ⟨hr, hl4, hk4, hle4, hv4, hs4, hz4, n1, n2, hv5⟩ := fin (some (.exit id)) S3 W3 hv3 hs3 hz3
        exact ⟨_, _, hr, _, hv4, hs4, hz4, .inr ⟨rfl, .exit id, S3, hIx _ _ _ _ _ hi3 hv5, n1, n2, rfl, hle4, hl4, hk4⟩⟩
      | goto t =>
        obtain ⟨S3, hv3, hs3, hz3, hi3⟩ := hp
        obtain ⟨hr, hl4, hk4, hle4, hv4, hs4, hz4, n1, n2, hv5⟩ := fin (some (.goto t)) S3 W3 hv3 hs3 hz3
        exact ⟨_, _, hr, _, hv4, hs4, hz4, .inr ⟨rfl, .goto t, S3, hIx _ _ _ _ _ hi3 hv5, n1, n2, rfl, hle4, hl4, hk4⟩⟩
      | panic ch => exact hp.elim
      | outgrown => exact hp.elim
    · -- behind the iterator
      rintro e W2 ⟨⟨v, rfl⟩, (⟨S, S', hi, hn1, hn2, _, hle, hl, hk⟩ | ⟨pre, S, hpx, c, S', hi, hn1, hn2, _, hle, hl, hk⟩)⟩
      · have hv : Lv (fun g => w.heap.size ≤ g ∧ ¬ S' g) W2 (W2.putObj (w.heap.size + 1) (.loop { rec .ready none with state := .exhausted })) := (Lv.refl _ _).putObj (fun _ => ⟨by omega, hn2⟩) _
        exact ⟨none, _, by have := run_endLoop (P := P) hl (by rw [hrec]; simp); rw [hrec] at this; rw [hrec] at hv ⊢; exact this, hdone _ S' _ (Nat.le_refl _) hn1 (hI _ _ _ _ hi.1 hv) ((World.putObj_heap_other (by omega)).trans hk)⟩
      · have hv : Lv (fun g => w.heap.size ≤ g ∧ ¬ S' g) W2 (W2.putObj (w.heap.size + 1) (.loop { rec .done (some c) with state := .exhausted })) := (Lv.refl _ _).putObj (fun _ => ⟨by omega, hn2⟩) _
        exact ⟨some c, _, by have := run_endLoop (P := P) hl (by rw [hrec]; simp); rw [hrec] at this; rw [hrec] at hv ⊢; exact this, hstop _ c pre S' _ (Nat.le_refl _) hn1 hpx (hIx c _ _ _ _ hi hv) ((World.putObj_heap_other (by omega)).trans hk)⟩
end Go.Proofs.YtmmcjcaccicheaaGreatDoor
/- The law for a range over a function whose rounds begin by making memory. No condition. -/
namespace Go.Proofs.YtmmcjcaccicheaaGreatDoor
open Go.RowKit
theorem wpIn_range2 {α : Type} {P : Program} {g : Operand} {ps : Array Tmp} {assign body : Code} {Q : Exit → Act → World → Prop} {a : Act} {w : World}
    {gf : Nat} {lb : Array Value} (hg : a.eval g = .func (.func gf) #[] lb) (eg : ∀ args w, (callFunc gf args).run P w = .ok (.enter gf args) w)
    {Enc : α → Array Value → (Nat → Prop) → World → Prop} {xs : List α} {It : Nat → Prop} {Pre : (Nat → Prop) → World → Prop} (hit : Iter P gf lb Enc xs It Pre) (hps : ∀ x vs S W, Enc x vs S W → vs.size = ps.size)
    (hEv : ∀ x vs S W W', Enc x vs S W → Lv S W W' → Enc x vs S W') (hEs : ∀ x vs (S S' : Nat → Prop) W, Enc x vs S W → (∀ g, S' g → S g) → Enc x vs S' W)
    (hIt : ∀ g, It g → g < w.heap.size)
    (I : List α → (Nat → Prop) → World → Prop) (Ix : Code → List α → (Nat → Prop) → World → Prop) (hI : Firm It w.heap.size I) (hIx : ∀ c, Firm It w.heap.size (Ix c)) (S0 : Nat → Prop) (h0 : I [] S0 w) (hS0 : ∀ g, S0 g → g < w.heap.size)
    (hpre : ∀ S W, Ext w W → (∀ g, g < w.heap.size → S g → S0 g) → Pre S W) (Asg : α → Array Value → World → Act → World → Prop) (hAsg : ∀ x vs W a₁ W', Asg x vs W a₁ W' → Ext W W')
    (hassign : ∀ (l : Nat) (x : α) (vs : Array Value) (S : Nat → Prop) (W : World) (K : Act → World → Prop), Enc x vs S W → (∀ a₁ W', Asg x vs W a₁ W' → K a₁ W') →
      assign.wpIn (Fence.wide.inRound l) 0 P (Exit.then K (fun _ _ _ => False)) { tmps := (ps.zip vs).foldl (fun t (p, v) => t.setIfInBounds p v) a.tmps, defers := [] } W)
    (hbody : ∀ (l : Nat) (pre : List α) (x : α) (vs : Array Value) (S : Nat → Prop) (W0 W' W : World) (a₁ : Act), Asg x vs W0 a₁ W' → w.heap.size ≤ W0.heap.size → Lv (fun g => w.heap.size ≤ g ∧ NC W' g) W' W → I pre S W → w.heap.size ≤ W.heap.size → (pre ++ [x]) <+: xs → Enc x vs S W → body.wpIn (Fence.wide.inRound l) 0 P (bodyQ I Ix (pre ++ [x]) S W) a₁ W)
    (hdone : ∀ (D : Nat) (S : Nat → Prop) (W : World), w.heap.size ≤ D → ¬ S D → I xs S W → W.heap[D]? = some (.deferred (some [])) → Q .normal { a with defers := { target := .collected D, args := #[] } :: a.defers } W)
    (hstop : ∀ (D : Nat) (c : Code) (pre : List α) (S : Nat → Prop) (W : World), w.heap.size ≤ D → ¬ S D → pre <+: xs → Ix c pre S W → W.heap[D]? = some (.deferred (some [])) → c.wpIn Fence.wide 0 P Q { a with defers := { target := .collected D, args := #[] } :: a.defers } W) :
    (Code.rangeFunc g ps assign body).wpIn Fence.wide 0 P Q a w := by
  refine wpIn_rangeFunc ?_
  intro fn hfn
  obtain ⟨rec, hrec⟩ : ∃ rec : LoopState → Option Code → Loop, rec = fun st pe => { state := st, pending := pe, fn, tmps := a.tmps, params := ps, assign, body, defers := w.heap.size } := ⟨_, rfl⟩
  obtain ⟨W1, hW1⟩ : ∃ W1, (w.alloc (.deferred (some []))).alloc (.loop (rec .ready none)) = W1 := ⟨_, rfl⟩
  have hsz : W1.heap.size = w.heap.size + 2 := by rw [← hW1]; simp
  have hL1 : W1.heap[w.heap.size + 1]? = some (.loop (rec .ready none)) := by
    rw [← hW1]; have := World.alloc_heap_new (w.alloc (.deferred (some []))) (.loop (rec .ready none)); rwa [World.size_alloc] at this
  have hK1 : W1.heap[w.heap.size]? = some (.deferred (some [])) := by
    rw [← hW1]; exact (Below.heap_alloc _ _ _ (by simp)).trans (World.alloc_heap_new w _)
  have hE1 : Ext w W1 := by rw [← hW1]; exact ((Ext.refl w).alloc _).alloc _
  have hI1 : I [] S0 W1 := hI _ _ _ _ h0 (Lv.of_ext hE1)
  have nIt1 : ¬ It w.heap.size := fun h => absurd (hIt _ h) (by omega)
  have nIt2 : ¬ It (w.heap.size + 1) := fun h => absurd (hIt _ h) (by omega)
  refine ⟨w.heap.size + 1, [{ target := .collected w.heap.size, args := #[] }], W1, { target := .fn (.func gf) lb, args := #[.func (.yield (w.heap.size + 1)) #[] #[]] }, W1, gf,
    #[.func (.yield (w.heap.size + 1)) #[] #[]] ++ lb, W1, ?_, ?_, ?_, ?_, fun h => (by cases h), ?_⟩
  · rw [← hW1, hrec]; exact run_enterLoop_outer _ _ _ _ _
  · simp only [resolve, hg]
    simp [go_sem]
  · intro f' _; trivial
  · simp [invoke, go_sem, eg]
  · refine (hit (w.heap.size + 1)
      (fun pre S W => ∃ S', I pre S' W ∧ ¬ S' w.heap.size ∧ ¬ S' (w.heap.size + 1) ∧ (S = fun g => S' g ∨ g = w.heap.size ∨ g = w.heap.size + 1) ∧ W1.heap.size ≤ W.heap.size ∧ W.heap[w.heap.size + 1]? = some (.loop (rec .ready none)) ∧ W.heap[w.heap.size]? = some (.deferred (some [])))
      (fun pre S W => ∃ c S', Ix c pre S' W ∧ ¬ S' w.heap.size ∧ ¬ S' (w.heap.size + 1) ∧ (S = fun g => S' g ∨ g = w.heap.size ∨ g = w.heap.size + 1) ∧ W1.heap.size ≤ W.heap.size ∧ W.heap[w.heap.size + 1]? = some (.loop (rec .done (some c))) ∧ W.heap[w.heap.size]? = some (.deferred (some [])))
      (fun g => S0 g ∨ g = w.heap.size ∨ g = w.heap.size + 1) W1 (hpre _ _ hE1 (fun g hg h => h.elim id (fun h => by omega))) (by rintro g (h | h); have := hS0 _ h; omega; omega) ?_ ?_ ?_
      ⟨S0, hI1, fun h => absurd (hS0 _ h) (by omega), fun h => absurd (hS0 _ h) (by omega), rfl, Nat.le_refl _, hL1, hK1⟩).mono ?_
    · rintro pre S A B ⟨S', hi, hn1, hn2, rfl, hle, hl, hk⟩ hv
      refine ⟨S', hI _ _ _ _ hi (hv.mono (fun g _ h => .inl h)), hn1, hn2, rfl, Nat.le_trans hle hv.size, ?_, ?_⟩
      · exact (hv.2 _ (by omega) nIt2).trans hl
      · exact (hv.2 _ (by omega) nIt1).trans hk
    · rintro pre S A B ⟨c, S', hi, hn1, hn2, rfl, hle, hl, hk⟩ hv
      refine ⟨c, S', hIx c _ _ _ _ hi (hv.mono (fun g _ h => .inl h)), hn1, hn2, rfl, Nat.le_trans hle hv.size, ?_, ?_⟩
      · exact (hv.2 _ (by omega) nIt2).trans hl
      · exact (hv.2 _ (by omega) nIt1).trans hk
    · -- one round
      rintro pre x vs S W ⟨S', hi, hn1, hn2, rfl, hle, hl, hk⟩ hpx henc
      have hlt : w.heap.size + 1 < W.heap.size := (Array.getElem?_eq_some_iff.1 hl).1
      have hy := run_yield (P := P) (args := vs) hl (by rw [hrec]; exact hps x _ _ _ henc)
      rw [hrec] at hy
      refine ⟨fn, _, assign, body, hy, roundIn_of_wpIn hfn (hassign _ x vs _ W _ henc fun a₁ Wa hasg => ?_)⟩
      have hEa := hAsg _ _ _ _ _ hasg
      have hla : Wa.heap[w.heap.size + 1]? = some (.loop (rec .ready none)) := hEa.block hl
      have hka : Wa.heap[w.heap.size]? = some (.deferred (some [])) := hEa.block hk
      refine ⟨_, run_beginRound hla (by rw [hrec]), ?_⟩
      have hlta : w.heap.size + 1 < Wa.heap.size := Nat.lt_of_lt_of_le hlt hEa.size
      obtain ⟨W2, hW2⟩ : ∃ W2, Wa.putObj (w.heap.size + 1) (.loop { rec .ready none with state := .busy }) = W2 := ⟨_, rfl⟩
      have hl2 : W2.heap[w.heap.size + 1]? = some (.loop { rec .ready none with state := .busy }) := by rw [← hW2]; exact World.putObj_heap_same hlta
      have hk2 : W2.heap[w.heap.size]? = some (.deferred (some [])) := by rw [← hW2]; exact (World.putObj_heap_other (by omega)).trans hka
      have hva : Lv (fun g => g = w.heap.size + 1) Wa W2 := by rw [← hW2]; exact Lv.putObj (S := fun g => g = w.heap.size + 1) (Lv.refl _ _) (fun _ => rfl) _
      have hv2 : Lv (fun g => g = w.heap.size + 1) W W2 := (Lv.of_ext hEa).trans hva (fun _ _ h => h)
      have hs2 : W.heap.size ≤ W2.heap.size := hv2.size
      have hi2 : I pre S' W2 := hI _ _ _ _ hi (hv2.mono (fun g _ h => by subst h; exact .inr ⟨by omega, _, hl, rfl⟩))
      have henc2 : Enc x vs S' W2 := hEs _ _ _ _ _ (hEv _ _ _ _ _ henc (hv2.mono (fun g _ h => .inr (.inr h)))) (fun g h => .inl h)
      have hvb : Lv (fun g => w.heap.size ≤ g ∧ NC Wa g) Wa W2 := hva.mono (fun g _ h => by subst h; exact ⟨by omega, _, hla, rfl⟩)
      rw [hW2]
      refine wpIn_mono (hbody _ pre x vs S' W Wa W2 a₁ hasg (by omega) hvb hi2 (by omega) hpx henc2) ?_
      have fin : ∀ (jump : Option Code) (S3 : Nat → Prop) (W3 : World), Lv S' W2 W3 → (∀ g, S3 g → S' g ∨ W2.heap.size ≤ g) → (∀ g, S3 g → g < W3.heap.size) →
          (Instr.endRound (w.heap.size + 1) jump).run P W3 = .ok (.bool jump.isNone) (W3.putObj (w.heap.size + 1) (.loop (rec (if jump.isNone then .ready else .done) jump))) ∧
          (W3.putObj (w.heap.size + 1) (.loop (rec (if jump.isNone then .ready else .done) jump))).heap[w.heap.size + 1]? = some (.loop (rec (if jump.isNone then .ready else .done) jump)) ∧
          (W3.putObj (w.heap.size + 1) (.loop (rec (if jump.isNone then .ready else .done) jump))).heap[w.heap.size]? = some (.deferred (some [])) ∧
          W1.heap.size ≤ (W3.putObj (w.heap.size + 1) (.loop (rec (if jump.isNone then .ready else .done) jump))).heap.size ∧
          Lv (fun g => S' g ∨ g = w.heap.size ∨ g = w.heap.size + 1) W (W3.putObj (w.heap.size + 1) (.loop (rec (if jump.isNone then .ready else .done) jump))) ∧
          (∀ g, (S3 g ∨ g = w.heap.size ∨ g = w.heap.size + 1) → (S' g ∨ g = w.heap.size ∨ g = w.heap.size + 1) ∨ W.heap.size ≤ g) ∧
          (∀ g, (S3 g ∨ g = w.heap.size ∨ g = w.heap.size + 1) → g < (W3.putObj (w.heap.size + 1) (.loop (rec (if jump.isNone then .ready else .done) jump))).heap.size) ∧ ¬ S3 w.heap.size ∧ ¬ S3 (w.heap.size + 1) ∧
          Lv (fun g => It g ∨ (w.heap.size ≤ g ∧ NC W3 g)) W3 (W3.putObj (w.heap.size + 1) (.loop (rec (if jump.isNone then .ready else .done) jump))) := fun jump S3 W3 hv3 hs3 hz3 => by
        have hl3 : W3.heap[w.heap.size + 1]? = some (.loop { rec .ready none with state := .busy }) := (hv3.2 _ (by omega) hn2).trans hl2
        have hk3 : W3.heap[w.heap.size]? = some (.deferred (some [])) := (hv3.2 _ (by omega) hn1).trans hk2
        have n2 : ¬ S3 (w.heap.size + 1) := fun h => (hs3 _ h).elim hn2 (by omega)
        have n1 : ¬ S3 w.heap.size := fun h => (hs3 _ h).elim hn1 (by omega)
        have := run_endRound (P := P) jump hl3
        rw [hrec] at this ⊢
        refine ⟨this, World.putObj_heap_same (Array.getElem?_eq_some_iff.1 hl3).1, (World.putObj_heap_other (by omega)).trans hk3, ?_, ?_, ?_, ?_, n1, n2, (Lv.refl _ _).putObj (fun _ => .inr ⟨by omega, _, hl3, rfl⟩) _⟩
        · have := hv3.size; simp [World.putObj]; omega
        · exact ((hv2.mono (fun g _ h => .inr (.inr h))).trans hv3 (fun g _ h => .inl h)).putObj (fun _ => .inr (.inr rfl)) _
        · rintro g (h | h)
          · rcases hs3 g h with h | h
            · exact .inl (.inl h)
            · exact .inr (by omega)
          · exact .inl (.inr h)
        · have hz := hv3.size
          rintro g (h | h)
          · have := hz3 g h; simp [World.putObj]; omega
          · simp [World.putObj]; omega
      rintro e a3 W3 hp
      cases e with
      | normal =>
        obtain ⟨S3, hv3, hs3, hz3, hi3⟩ := hp
        obtain ⟨hr, hl4, hk4, hle4, hv4, hs4, hz4, n1, n2, hv5⟩ := fin none S3 W3 hv3 hs3 hz3
        exact ⟨_, _, hr, _, hv4, hs4, hz4, .inl ⟨rfl, S3, hI _ _ _ _ hi3 hv5, n1, n2, rfl, hle4, hl4, hk4⟩⟩
      | ret =>
        obtain ⟨S3, hv3, hs3, hz3, hi3⟩ := hp
        obtain ⟨hr, hl4, hk4, hle4, hv4, hs4, hz4, n1, n2, hv5⟩ := fin (some .ret) S3 W3 hv3 hs3 hz3
        exact ⟨_, _, hr, _, hv4, hs4, hz4, .inr ⟨rfl, .ret, S3, hIx _ _ _ _ _ hi3 hv5, n1, n2, rfl, hle4, hl4, hk4⟩⟩
      | exit id =>
        obtain ⟨S3, hv3, hs3, hz3, hi3⟩ := hp
        obtain ⟨hr, hl4, hk4, hle4, hv4, hs4, hz4, n1, n2, hv5⟩ := fin (some (.exit id)) S3 W3 hv3 hs3 hz3
        exact ⟨_, _, hr, _, hv4, hs4, hz4, .inr ⟨rfl, .exit id, S3, hIx _ _ _ _ _ hi3 hv5, n1, n2, rfl, hle4, hl4, hk4⟩⟩
      | goto t =>
        obtain ⟨S3, hv3, hs3, hz3, hi3⟩ := hp
        obtain ⟨hr, hl4, hk4, hle4, hv4, hs4, hz4, n1, n2, hv5⟩ := fin (some (.goto t)) S3 W3 hv3 hs3 hz3
        exact ⟨_, _, hr, _, hv4, hs4, hz4, .inr ⟨rfl, .goto t, S3, hIx _ _ _ _ _ hi3 hv5, n1, n2, rfl, hle4, hl4, hk4⟩⟩
      | panic ch => exact hp.elim
      | outgrown => exact hp.elim
    · -- behind the iterator
      rintro e W2 ⟨⟨v, rfl⟩, (⟨S, S', hi, hn1, hn2, _, hle, hl, hk⟩ | ⟨pre, S, hpx, c, S', hi, hn1, hn2, _, hle, hl, hk⟩)⟩
      · have hv : Lv (fun g => It g ∨ (w.heap.size ≤ g ∧ NC W2 g)) W2 (W2.putObj (w.heap.size + 1) (.loop { rec .ready none with state := .exhausted })) := (Lv.refl _ _).putObj (fun _ => .inr ⟨by omega, _, hl, rfl⟩) _
        exact ⟨none, _, by have := run_endLoop (P := P) hl (by rw [hrec]; simp); rw [hrec] at this; rw [hrec] at hv ⊢; exact this, hdone _ S' _ (Nat.le_refl _) hn1 (hI _ _ _ _ hi hv) ((World.putObj_heap_other (by omega)).trans hk)⟩
      · have hv : Lv (fun g => It g ∨ (w.heap.size ≤ g ∧ NC W2 g)) W2 (W2.putObj (w.heap.size + 1) (.loop { rec .done (some c) with state := .exhausted })) := (Lv.refl _ _).putObj (fun _ => .inr ⟨by omega, _, hl, rfl⟩) _
        exact ⟨some c, _, by have := run_endLoop (P := P) hl (by rw [hrec]; simp); rw [hrec] at this; rw [hrec] at hv ⊢; exact this, hstop _ c pre S' _ (Nat.le_refl _) hn1 hpx (hIx c _ _ _ _ hi hv) ((World.putObj_heap_other (by omega)).trans hk)⟩
end Go.Proofs.YtmmcjcaccicheaaGreatDoor
/- Contract: Certificate. -/
namespace Go.Proofs.YtmmcjcaccicheaaGreatDoor
open Go.RowKit
attribute [local go_sem] Oper.semAt_some

set_option maxHeartbeats 4000000 in
theorem certificate_any (A B : Option Addr) (n c m cd : Nat) (a b : Lns) (w : World) (ha : Strs w A n a) (hb : Strs w B m b) (hn : n ≤ 100) (hm : m ≤ 100) (D : Nat) (hD : D ≤ 200) (hL : LastT a b D) :
    Calls Tryz.prog 9 #[.slice A n c, .slice B m cd] w fun e w' => ∃ g cc L, e = .returned (.slice (some ⟨g, 0, none⟩) D cc) ∧ RTBs w' (some ⟨g, 0, none⟩) D L ∧ L.map (·.t) = tabsV a b D ∧ Ext w w' := by
  obtain rfl : a.length = n := ha.1
  obtain rfl : b.length = m := hb.1
  have HA := Lib.hid ha; have HB := Lib.hid hb; have HL := Lib.hid hL; clear ha hb hL
  refine calls_marks Tryz.func9 rfl ?_
  simp only [Tryz.ntmps9, List.size_toArray, List.length_cons, List.length_nil, Nat.reduceAdd, Nat.reduceSub, Array.replicate_succ, Array.replicate_zero, List.push_toArray, List.append_toArray, List.nil_append, List.cons_append]
  go_wp2_with fail
  refine (follower_any _ _ _ _ _ _ _).mono ?_
  rintro e w1 ⟨rfl, rfl⟩
  go_wp2_with fail
  refine (tables_any _ _ _ _ _ _ _ _ _).mono ?_
  rintro e w1 ⟨rfl, rfl⟩
  go_wp2_with fail
  obtain ⟨w1, hw1⟩ : ∃ w1, w1 = w.alloc (.cells #[.slice none 0 0] 30) := ⟨_, rfl⟩
  have hs1 : w1.heap.size = w.heap.size + 1 := by rw [hw1]; simp
  obtain ⟨w0, hw0⟩ : ∃ w0, w0 = ((((w1.alloc (boxS A a.length c)).alloc (boxS B b.length cd)).alloc (boxS A a.length c)).alloc (boxS B b.length cd)).alloc (boxF w1.heap.size (w1.heap.size + 1)) := ⟨_, rfl⟩
  have hs0 : w0.heap.size = w.heap.size + 6 := by rw [hw0]; simp [hs1]
  have he1 : Ext w w1 := by rw [hw1]; exact (Ext.refl w).alloc _
  have he0 : Ext w1 w0 := by rw [hw0]; exact (((((Ext.refl w1).alloc _).alloc _).alloc _).alloc _).alloc _
  have hbx : Blk w0 w.heap.size (.cells #[.slice none 0 0] 30) := by
    refine Blk.ext ?_ he0
    rw [hw1]; exact Blk.new w _ rfl
  have hK := kn_start (X := fun g => g = w.heap.size) (d := cd) HA.out HB.out he1 (fun g hg => by subst hg; omega) hw0
  have hit := tables_iter A B c cd a b _ _ _ _ _ (fun g => g = w.heap.size) w0 hK (by omega) (by omega) D (by omega) HL.out.1 HL.out.2
  have e0 : (((((w.alloc (Obj.cells #[Value.slice none 0 0] 30)).alloc (boxS A (List.length a) c)).alloc (boxS B (List.length b) cd)).alloc (boxS A (List.length a) c)).alloc (boxS B (List.length b) cd)).alloc (boxF (w.heap.size + 1) (w.heap.size + 1 + 1)) = w0 := by rw [hw0, hs1, hw1]
  rw [e0]
  rw [hs1] at hit
  obtain ⟨inf, i1, i2, i3, i4⟩ := info_of info47
  have I1 := Lib.hid i1; have I2 := Lib.hid i2; have I3 := Lib.hid i3; have I4 := Lib.hid i4; clear i1 i2 i3 i4
  have HBX := Lib.hid hbx; have HE1 := Lib.hid (he1.trans he0); have HS0 := Lib.hid hs0
  clear e0 hw0 hw1 hs1 he1 he0 hbx hK hs0
  refine wp_of_In (wpIn_range (gf := 48) rfl (enters_of Tryz.func48 (by kernel_rfl) rfl) hit encT_size encT_lv encT_less (fun g h => h.elim)
    (ColI w.heap.size w0.heap.size 30 49 w0) (fun _ _ _ _ => False) (col_firm (by rw [HS0.out]; omega) (Nat.le_refl _)) (fun _ _ _ _ _ h _ => h.elim) (fun g => g = w.heap.size ∨ Value.ownBlock (.slice none 0 0) = some g)
    ⟨_, [], HBX.out, World.ownsRow_nil _ _ _ _, ⟨rfl, by simp⟩, rfl, Lv.refl _ _⟩ (fun g h => by rcases h with rfl | h; rw [HS0.out]; omega; cases h)
    (fun S W e h => ⟨Lv.of_ext e, fun g hg hs => (h g hg hs).elim id (fun h => by cases h)⟩)
    (fun vs => { tmps := #[Value.slice A (List.length a) c, Value.slice B (List.length b) cd, undef, undef, Value.slice none 0 0,
          Value.pointer (some { block := w.heap.size, off := 0 }), vs.getD 0 undef, Value.slice A (List.length a) c,
          Value.slice B (List.length b) cd, Value.slice A (List.length a) c, Value.slice B (List.length b) cd,
          folF (w.heap.size + 1) (w.heap.size + 1 + 1),
          tabF (w.heap.size + 1 + 1 + 1 + 2) (w.heap.size + 1 + 1 + 1) (w.heap.size + 1 + 1 + 1 + 1), vs.getD 0 undef, undef,
          undef, undef, undef, undef, undef, undef, undef, undef], defers := [] }) ?assign ?body ?done (fun _ _ _ _ _ _ _ _ h _ => h.elim))
  case assign =>
    rintro l x vs S W K ⟨g, v, rfl, ht, hng⟩ hK
    gi_wp2
    exact hK
  case body =>
    rintro l pre x vs S W ⟨v, vs', h1, h2, h3, h4, h5⟩ hle hpx ⟨g, u, rfl, ht, hng⟩
    have hlen : pre.length ≤ D := by have := hpx.length_le; simp [tabsV] at this; omega
    have H1 := Lib.hid h1; have H2 := Lib.hid h2; have H3 := Lib.hid h3; have H4 := Lib.hid h4; have H5 := Lib.hid h5; have HT := Lib.hid ht; have HN := Lib.hid hng
    have c0 := h1.cell 0; have f0 := h1.free 0
    replace c0 : W.cell? ⟨w.heap.size, 0, none⟩ = some v := c0
    clear h1 h2 h3 h4 h5 ht hng
    obtain ⟨cc, cs, hv, -, -⟩ := HT.out
    subst hv
    gi_wp2_with (gi_at_builtin; refine wpListIn_append_size2 rfl (.tmp 14) (.tmp 16) 30 rfl w0.heap.size 49 inf _ 1 24 under33 I1.out I2.out I3.out I4.out rfl (by decide) v pre.length vs' (some ⟨W.heap.size, 0, none⟩) 1 1 [.slice (some ⟨g, 0, none⟩) x.length cc] rfl (by simp [Act.eval]) rfl (by simp [Value.oneCell']) (by simp only [maxLen]; omega) (by omega) (own_stab3 ((Ext.refl W).alloc _) H2.out) (Cells.new W _ [_] rfl) (by simp; omega) ?_; intro v2 w2 hown2 hg2 hb2; have hbx2 := col_box (by rw [HS0.out]; omega) H1.out H2.out ((Ext.refl W).alloc _) hg2; have c1 := hbx2.cell 0; have f1 := hbx2.free 0; obtain ⟨g', cap', rfl⟩ := ownsRow_succ hown2; have HO2 := Lib.hid hown2; have HG2 := Lib.hid hg2; have HB2 := Lib.hid hb2; clear hown2 hg2 hb2 hbx2 c0 f0; simp only [List.getElem?_toArray, List.getElem?_cons_zero] at c1)
    obtain ⟨p1, p2, p3, p4⟩ := col_step (by rw [HS0.out]; omega) (by decide) (by decide) H1.out H2.out H3.out H4.out H5.out (Nat.le_refl _) HT.out HN.out ((Ext.refl W).alloc _) HO2.out HG2.out HB2.out
    exact ⟨_, p1, p2, p3, p4⟩
  case done =>
    rintro D0 S W hD0 hnS ⟨v, vs', h1, h2, h3, h4, h5⟩ hdef
    have c0 := h1.cell 0
    replace c0 : W.cell? ⟨w.heap.size, 0, none⟩ = some v := c0
    have hlen : (tabsV a b (D + 1)).length = D + 1 := by simp [tabsV]
    rw [hlen] at h2
    obtain ⟨g, cc, L, rfl, hgb, hcc, hL1, hL2, hL3⟩ := own_tabs h2 h3 (tabsV_small a b (by omega))
    have HD := Lib.hid hdef; have H2 := Lib.hid h2; have H3 := Lib.hid h3; have H5 := Lib.hid h5; have HL1 := Lib.hid hL1; have HL2 := Lib.hid hL2; have HL3 := Lib.hid hL3
    clear hdef h1 h2 h3 h4 h5 hlen hL1 hL2 hL3
    go_wp2_with fail
    refine ⟨by simp, .inl ⟨_, _, rfl, run_takeDeferred HD.out, ?_⟩⟩
    have hlv : Lv (fun g => g = D0) W (W.putObj D0 (.deferred none)) := Lv.putObj (S := fun g => g = D0) (Lv.refl _ _) (fun _ => rfl) _
    have hE := ((H5.out.putObj (l := D0) (fun h => absurd h (by omega)) (.deferred none)).extBelow HE1.out (fun g hg h => by omega))
    have ho := own_lv H2.out hlv (fun g hg he => by
      subst he
      obtain ⟨_, cur, hb⟩ := own_blk H2.out hg
      exact hb.nc ⟨_, HD.out, rfl⟩)
    have ht := H3.out.lv hlv (fun g cs f he hb => by
      subst he
      exact hb.nc ⟨_, HD.out, rfl⟩)
    obtain ⟨g2, cc2, L2, hv2, hgb2, hcc2, hL1, hL2, hL3⟩ := own_tabs ho ht (tabsV_small a b (by omega))
    cases hv2
    refine ⟨_, results_tmp rfl _ _ _, g, cc, L2.take D, ?_, hL2.less (by omega), ?_, hE⟩
    · simp
    · rw [List.map_take, hL3, tabsV_succ, List.take_left' (by simp [tabsV])]
end Go.Proofs.YtmmcjcaccicheaaGreatDoor

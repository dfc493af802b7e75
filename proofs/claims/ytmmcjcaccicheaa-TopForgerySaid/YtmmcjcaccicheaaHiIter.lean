/- The law for a range over a function whose rounds begin by making memory. No condition. -/
import Derived.Test.YtmmcjcaccicheaaIter
namespace Go.Proofs.Ytmmcjcaccicheaa
open Go.RowKit
theorem wpIn_range2 {α : Type} {P : Program} {g : Operand} {ps : Array Tmp} {assign body : Code} {Q : Exit → Act → World → Prop} {a : Act} {w : World}
    {gf : Nat} {lb : Array Value} (hg : a.eval g = .func (.func gf) #[] lb) (eg : ∀ args w, (callFunc gf args).run P w = .ok (.enter gf args) w)
    {Enc : α → Array Value → (Nat → Prop) → World → Prop} {xs : List α} {It : Nat → Prop} {Pre : (Nat → Prop) → World → Prop} (hit : Iter P gf lb Enc xs It Pre) (hps : ∀ x vs S W, Enc x vs S W → vs.size = ps.size)
    (hEv : ∀ x vs S W W', Enc x vs S W → Lv S W W' → Enc x vs S W') (hEs : ∀ x vs (S S' : Nat → Prop) W, Enc x vs S W → (∀ g, S' g → S g) → Enc x vs S' W)
    (hIt : ∀ g, It g → g < w.heap.size)
    (I : List α → (Nat → Prop) → World → Prop) (Ix : Code → List α → (Nat → Prop) → World → Prop) (hI : Firm It w.heap.size I) (hIx : ∀ c, Firm It w.heap.size (Ix c)) (S0 : Nat → Prop) (h0 : I [] S0 w) (hS0 : ∀ g, S0 g → g < w.heap.size)
    (hpre : ∀ S W, Ext w W → (∀ g, g < w.heap.size → S g → S0 g) → Pre S W) (Asg : α → Array Value → World → Act → World → Prop) (hAsg : ∀ x vs W a₁ W', Asg x vs W a₁ W' → Ext W W')
    (hassign : ∀ (l : Nat) (x : α) (vs : Array Value) (S : Nat → Prop) (W : World) (K : Act → World → Prop), Enc x vs S W → (∀ a₁ W', Asg x vs W a₁ W' → K a₁ W') →
      assign.wpIn (Fence.wide.inRound l) 0 P (Exit.then K (fun _ _ _ => False)) { tmps := (ps.zip vs).foldl (fun t (p, v) => t.setIfInBounds p v) a.tmps, defers := [] } W)
    (hbody : ∀ (l : Nat) (pre : List α) (x : α) (vs : Array Value) (S : Nat → Prop) (W0 W' W : World) (a₁ : Act), Asg x vs W0 a₁ W' → w.heap.size ≤ W0.heap.size → Lv (fun g => w.heap.size ≤ g ∧ NC W' g) W' W → I pre S W → w.heap.size ≤ W.heap.size → (pre ++ [x]) <+: xs → Enc x vs S W → body.wpIn (Fence.wide.inRound l) 0 P (bodyQ I Ix (pre ++ [x]) S W) a₁ W)
    (hdone : ∀ (D : Nat) (S : Nat → Prop) (W : World), w.heap.size ≤ D → ¬ S D → I xs S W → W.heap[D]? = some (.deferred (some [])) → Q .normal { a with defers := { target := .collected D, args := #[] } :: a.defers } W)
    (hstop : ∀ (D : Nat) (c : Code) (pre : List α) (S : Nat → Prop) (W : World), w.heap.size ≤ D → ¬ S D → pre <+: xs → Ix c pre S W → W.heap[D]? = some (.deferred (some [])) → c.wpIn Fence.wide 0 P Q { a with defers := { target := .collected D, args := #[] } :: a.defers } W) :
    (Code.rangeFunc g ps assign body).wpIn Fence.wide 0 P Q a w := by
  refine wpIn_rangeFunc ?_
  intro fn hfn
  obtain ⟨rec, hrec⟩ : ∃ rec : LoopState → Option Code → Loop, rec = fun st pe => { state := st, pending := pe, fn, tmps := a.tmps, params := ps, assign, body, defers := w.heap.size } := ⟨_, rfl⟩
  obtain ⟨W1, hW1⟩ : ∃ W1, (w.alloc (.deferred (some []))).alloc (.loop (rec .ready none)) = W1 := ⟨_, rfl⟩
  have hsz : W1.heap.size = w.heap.size + 2 := by rw [← hW1]; simp
  have hL1 : W1.heap[w.heap.size + 1]? = some (.loop (rec .ready none)) := by
    rw [← hW1]; have := World.alloc_heap_new (w.alloc (.deferred (some []))) (.loop (rec .ready none)); rwa [World.size_alloc] at this
  have hK1 : W1.heap[w.heap.size]? = some (.deferred (some [])) := by
    rw [← hW1]; exact (Below.heap_alloc _ _ _ (by simp)).trans (World.alloc_heap_new w _)
  have hE1 : Ext w W1 := by rw [← hW1]; exact ((Ext.refl w).alloc _).alloc _
  have hI1 : I [] S0 W1 := hI _ _ _ _ h0 (Lv.of_ext hE1)
  have nIt1 : ¬ It w.heap.size := fun h => absurd (hIt _ h) (by omega)
  have nIt2 : ¬ It (w.heap.size + 1) := fun h => absurd (hIt _ h) (by omega)
  refine ⟨w.heap.size + 1, [{ target := .collected w.heap.size, args := #[] }], W1, { target := .fn (.func gf) lb, args := #[.func (.yield (w.heap.size + 1)) #[] #[]] }, W1, gf,
    #[.func (.yield (w.heap.size + 1)) #[] #[]] ++ lb, W1, ?_, ?_, ?_, ?_, fun h => (by cases h), ?_⟩
  · rw [← hW1, hrec]; exact run_enterLoop_outer _ _ _ _ _
  · simp only [resolve, hg]
    simp [go_sem]
  · intro f' _; trivial
  · simp [invoke, go_sem, eg]
  · refine (hit (w.heap.size + 1)
      (fun pre S W => ∃ S', I pre S' W ∧ ¬ S' w.heap.size ∧ ¬ S' (w.heap.size + 1) ∧ (S = fun g => S' g ∨ g = w.heap.size ∨ g = w.heap.size + 1) ∧ W1.heap.size ≤ W.heap.size ∧ W.heap[w.heap.size + 1]? = some (.loop (rec .ready none)) ∧ W.heap[w.heap.size]? = some (.deferred (some [])))
      (fun pre S W => ∃ c S', Ix c pre S' W ∧ ¬ S' w.heap.size ∧ ¬ S' (w.heap.size + 1) ∧ (S = fun g => S' g ∨ g = w.heap.size ∨ g = w.heap.size + 1) ∧ W1.heap.size ≤ W.heap.size ∧ W.heap[w.heap.size + 1]? = some (.loop (rec .done (some c))) ∧ W.heap[w.heap.size]? = some (.deferred (some [])))
      (fun g => S0 g ∨ g = w.heap.size ∨ g = w.heap.size + 1) W1 (hpre _ _ hE1 (fun g hg h => h.elim id (fun h => by omega))) (by rintro g (h | h); have := hS0 _ h; omega; omega) ?_ ?_ ?_
      ⟨S0, hI1, fun h => absurd (hS0 _ h) (by omega), fun h => absurd (hS0 _ h) (by omega), rfl, Nat.le_refl _, hL1, hK1⟩).mono ?_
    · rintro pre S A B ⟨S', hi, hn1, hn2, rfl, hle, hl, hk⟩ hv
      refine ⟨S', hI _ _ _ _ hi (hv.mono (fun g _ h => .inl h)), hn1, hn2, rfl, Nat.le_trans hle hv.size, ?_, ?_⟩
      · exact (hv.2 _ (by omega) nIt2).trans hl
      · exact (hv.2 _ (by omega) nIt1).trans hk
    · rintro pre S A B ⟨c, S', hi, hn1, hn2, rfl, hle, hl, hk⟩ hv
      refine ⟨c, S', hIx c _ _ _ _ hi (hv.mono (fun g _ h => .inl h)), hn1, hn2, rfl, Nat.le_trans hle hv.size, ?_, ?_⟩
      · exact (hv.2 _ (by omega) nIt2).trans hl
      · exact (hv.2 _ (by omega) nIt1).trans hk
    · -- one round
      rintro pre x vs S W ⟨S', hi, hn1, hn2, rfl, hle, hl, hk⟩ hpx henc
      have hlt : w.heap.size + 1 < W.heap.size := (Array.getElem?_eq_some_iff.1 hl).1
      have hy := run_yield (P := P) (args := vs) hl (by rw [hrec]; exact hps x _ _ _ henc)
      rw [hrec] at hy
      refine ⟨fn, _, assign, body, hy, roundIn_of_wpIn hfn (hassign _ x vs _ W _ henc fun a₁ Wa hasg => ?_)⟩
      have hEa := hAsg _ _ _ _ _ hasg
      have hla : Wa.heap[w.heap.size + 1]? = some (.loop (rec .ready none)) := hEa.block hl
      have hka : Wa.heap[w.heap.size]? = some (.deferred (some [])) := hEa.block hk
      refine ⟨_, run_beginRound hla (by rw [hrec]), ?_⟩
      have hlta : w.heap.size + 1 < Wa.heap.size := Nat.lt_of_lt_of_le hlt hEa.size
      obtain ⟨W2, hW2⟩ : ∃ W2, Wa.putObj (w.heap.size + 1) (.loop { rec .ready none with state := .busy }) = W2 := ⟨_, rfl⟩
      have hl2 : W2.heap[w.heap.size + 1]? = some (.loop { rec .ready none with state := .busy }) := by rw [← hW2]; exact World.putObj_heap_same hlta
      have hk2 : W2.heap[w.heap.size]? = some (.deferred (some [])) := by rw [← hW2]; exact (World.putObj_heap_other (by omega)).trans hka
      have hva : Lv (fun g => g = w.heap.size + 1) Wa W2 := by rw [← hW2]; exact Lv.putObj (S := fun g => g = w.heap.size + 1) (Lv.refl _ _) (fun _ => rfl) _
      have hv2 : Lv (fun g => g = w.heap.size + 1) W W2 := (Lv.of_ext hEa).trans hva (fun _ _ h => h)
      have hs2 : W.heap.size ≤ W2.heap.size := hv2.size
      have hi2 : I pre S' W2 := hI _ _ _ _ hi (hv2.mono (fun g _ h => by subst h; exact .inr ⟨by omega, _, hl, rfl⟩))
      have henc2 : Enc x vs S' W2 := hEs _ _ _ _ _ (hEv _ _ _ _ _ henc (hv2.mono (fun g _ h => .inr (.inr h)))) (fun g h => .inl h)
      have hvb : Lv (fun g => w.heap.size ≤ g ∧ NC Wa g) Wa W2 := hva.mono (fun g _ h => by subst h; exact ⟨by omega, _, hla, rfl⟩)
      rw [hW2]
      refine wpIn_mono (hbody _ pre x vs S' W Wa W2 a₁ hasg (by omega) hvb hi2 (by omega) hpx henc2) ?_
      have fin : ∀ (jump : Option Code) (S3 : Nat → Prop) (W3 : World), Lv S' W2 W3 → (∀ g, S3 g → S' g ∨ W2.heap.size ≤ g) → (∀ g, S3 g → g < W3.heap.size) →
          (Instr.endRound (w.heap.size + 1) jump).run P W3 = .ok (.bool jump.isNone) (W3.putObj (w.heap.size + 1) (.loop (rec (if jump.isNone then .ready else .done) jump))) ∧
          (W3.putObj (w.heap.size + 1) (.loop (rec (if jump.isNone then .ready else .done) jump))).heap[w.heap.size + 1]? = some (.loop (rec (if jump.isNone then .ready else .done) jump)) ∧
          (W3.putObj (w.heap.size + 1) (.loop (rec (if jump.isNone then .ready else .done) jump))).heap[w.heap.size]? = some (.deferred (some [])) ∧
          W1.heap.size ≤ (W3.putObj (w.heap.size + 1) (.loop (rec (if jump.isNone then .ready else .done) jump))).heap.size ∧
          Lv (fun g => S' g ∨ g = w.heap.size ∨ g = w.heap.size + 1) W (W3.putObj (w.heap.size + 1) (.loop (rec (if jump.isNone then .ready else .done) jump))) ∧
          (∀ g, (S3 g ∨ g = w.heap.size ∨ g = w.heap.size + 1) → (S' g ∨ g = w.heap.size ∨ g = w.heap.size + 1) ∨ W.heap.size ≤ g) ∧
          (∀ g, (S3 g ∨ g = w.heap.size ∨ g = w.heap.size + 1) → g < (W3.putObj (w.heap.size + 1) (.loop (rec (if jump.isNone then .ready else .done) jump))).heap.size) ∧ ¬ S3 w.heap.size ∧ ¬ S3 (w.heap.size + 1) ∧
          Lv (fun g => It g ∨ (w.heap.size ≤ g ∧ NC W3 g)) W3 (W3.putObj (w.heap.size + 1) (.loop (rec (if jump.isNone then .ready else .done) jump))) := fun jump S3 W3 hv3 hs3 hz3 => by
        have hl3 : W3.heap[w.heap.size + 1]? = some (.loop { rec .ready none with state := .busy }) := (hv3.2 _ (by omega) hn2).trans hl2
        have hk3 : W3.heap[w.heap.size]? = some (.deferred (some [])) := (hv3.2 _ (by omega) hn1).trans hk2
        have n2 : ¬ S3 (w.heap.size + 1) := fun h => (hs3 _ h).elim hn2 (by omega)
        have n1 : ¬ S3 w.heap.size := fun h => (hs3 _ h).elim hn1 (by omega)
        have := run_endRound (P := P) jump hl3
        rw [hrec] at this ⊢
        refine ⟨this, World.putObj_heap_same (Array.getElem?_eq_some_iff.1 hl3).1, (World.putObj_heap_other (by omega)).trans hk3, ?_, ?_, ?_, ?_, n1, n2, (Lv.refl _ _).putObj (fun _ => .inr ⟨by omega, _, hl3, rfl⟩) _⟩
        · have := hv3.size; simp [World.putObj]; omega
        · exact ((hv2.mono (fun g _ h => .inr (.inr h))).trans hv3 (fun g _ h => .inl h)).putObj (fun _ => .inr (.inr rfl)) _
        · rintro g (h | h)
          · rcases hs3 g h with h | h
            · exact .inl (.inl h)
            · exact .inr (by omega)
          · exact .inl (.inr h)
        · have hz := hv3.size
          rintro g (h | h)
          · have := hz3 g h; simp [World.putObj]; omega
          · simp [World.putObj]; omega
      rintro e a3 W3 hp
      cases e with
      | normal =>
        obtain ⟨S3, hv3, hs3, hz3, hi3⟩ := hp
        obtain ⟨hr, hl4, hk4, hle4, hv4, hs4, hz4, n1, n2, hv5⟩ := fin none S3 W3 hv3 hs3 hz3
        exact ⟨_, _, hr, _, hv4, hs4, hz4, .inl ⟨rfl, S3, hI _ _ _ _ hi3 hv5, n1, n2, rfl, hle4, hl4, hk4⟩⟩
      | ret =>
        obtain ⟨S3, hv3, hs3, hz3, hi3⟩ := hp
        obtain ⟨hr, hl4, hk4, hle4, hv4, hs4, hz4, n1, n2, hv5⟩ := fin (some .ret) S3 W3 hv3 hs3 hz3
        exact ⟨_, _, hr, _, hv4, hs4, hz4, .inr ⟨rfl, .ret, S3, hIx _ _ _ _ _ hi3 hv5, n1, n2, rfl, hle4, hl4, hk4⟩⟩
      | exit id =>
        obtain ⟨S3, hv3, hs3, hz3, hi3⟩ := hp
        obtain ⟨hr, hl4, hk4, hle4, hv4, hs4, hz4, n1, n2, hv5⟩ := fin (some (.exit id)) S3 W3 hv3 hs3 hz3
        exact ⟨_, _, hr, _, hv4, hs4, hz4, .inr ⟨rfl, .exit id, S3, hIx _ _ _ _ _ hi3 hv5, n1, n2, rfl, hle4, hl4, hk4⟩⟩
      | goto t =>
        obtain ⟨S3, hv3, hs3, hz3, hi3⟩ := hp
        obtain ⟨hr, hl4, hk4, hle4, hv4, hs4, hz4, n1, n2, hv5⟩ := fin (some (.goto t)) S3 W3 hv3 hs3 hz3
        exact ⟨_, _, hr, _, hv4, hs4, hz4, .inr ⟨rfl, .goto t, S3, hIx _ _ _ _ _ hi3 hv5, n1, n2, rfl, hle4, hl4, hk4⟩⟩
      | panic ch => exact hp.elim
      | outgrown => exact hp.elim
    · -- behind the iterator
      rintro e W2 ⟨⟨v, rfl⟩, (⟨S, S', hi, hn1, hn2, _, hle, hl, hk⟩ | ⟨pre, S, hpx, c, S', hi, hn1, hn2, _, hle, hl, hk⟩)⟩
      · have hv : Lv (fun g => It g ∨ (w.heap.size ≤ g ∧ NC W2 g)) W2 (W2.putObj (w.heap.size + 1) (.loop { rec .ready none with state := .exhausted })) := (Lv.refl _ _).putObj (fun _ => .inr ⟨by omega, _, hl, rfl⟩) _
        exact ⟨none, _, by have := run_endLoop (P := P) hl (by rw [hrec]; simp); rw [hrec] at this; rw [hrec] at hv ⊢; exact this, hdone _ S' _ (Nat.le_refl _) hn1 (hI _ _ _ _ hi hv) ((World.putObj_heap_other (by omega)).trans hk)⟩
      · have hv : Lv (fun g => It g ∨ (w.heap.size ≤ g ∧ NC W2 g)) W2 (W2.putObj (w.heap.size + 1) (.loop { rec .done (some c) with state := .exhausted })) := (Lv.refl _ _).putObj (fun _ => .inr ⟨by omega, _, hl, rfl⟩) _
        exact ⟨some c, _, by have := run_endLoop (P := P) hl (by rw [hrec]; simp); rw [hrec] at this; rw [hrec] at hv ⊢; exact this, hstop _ c pre S' _ (Nat.le_refl _) hn1 hpx (hIx c _ _ _ _ hi hv) ((World.putObj_heap_other (by omega)).trans hk)⟩
end Go.Proofs.Ytmmcjcaccicheaa

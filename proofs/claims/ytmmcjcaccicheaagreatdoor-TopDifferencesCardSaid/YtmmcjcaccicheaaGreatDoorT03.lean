/- Iter Leaf Mem Equal Match MyAt: parts of the proof of TopDifferences, one text behind the other. No condition. -/
import Derived.Test.YtmmcjcaccicheaaGreatDoorT02
import Derived.RangeFuncNested
import Derived.RangeFuncBound
import Derived.RangeFuncCalls
import Derived.RangeFuncLeaves
import Derived.OwnWalkIn
import Derived.TacticsInMore
import Derived.LoopNIn
import Derived.LoopIn
import Derived.Shelf.Abstract
import Derived.Test.YtmmcjcaccicheaaGreatDoorT01
/- A law for a range over a function whose iterator keeps tables of its own in memory: the caller owns a set of blocks (S), the iterator whatever else is new. No condition. -/
namespace Go.Proofs.YtmmcjcaccicheaaGreatDoor
open Go.RowKit

/-- Nothing has turned but the blocks of S, and what is new. -/
def Lv (S : Nat → Prop) (W W' : World) : Prop := Below 0 W W' ∧ ∀ g, g < W.heap.size → ¬ S g → W'.heap[g]? = W.heap[g]?
section
variable {S S' : Nat → Prop} {A B C : World}
theorem Lv.size (h : Lv S A B) : A.heap.size ≤ B.heap.size := h.1.size
theorem Lv.refl (S : Nat → Prop) (W : World) : Lv S W W := ⟨Below.refl _ _, fun _ _ _ => rfl⟩
theorem Lv.trans (h : Lv S A B) (k : Lv S' B C) (hS : ∀ g, g < A.heap.size → S' g → S g) : Lv S A C :=
  ⟨h.1.trans k.1, fun g hg hn => (k.2 g (Nat.lt_of_lt_of_le hg h.size) (fun hs => hn (hS g hg hs))).trans (h.2 g hg hn)⟩
theorem Lv.mono (h : Lv S A B) (hS : ∀ g, g < A.heap.size → S g → S' g) : Lv S' A B := ⟨h.1, fun g hg hn => h.2 g hg (fun hs => hn (hS g hg hs))⟩
theorem Lv.ext (h : Lv S A B) (e : Ext B C) : Lv S A C := ⟨h.1.trans (Below.mono e (Nat.zero_le _)), fun g hg hn => (Below.block e g (Nat.lt_of_lt_of_le hg h.size)).trans (h.2 g hg hn)⟩
theorem Lv.of_ext (e : Ext A B) : Lv S A B := (Lv.refl S A).ext e
theorem Lv.alloc (h : Lv S A B) (o : Obj) : Lv S A (B.alloc o) := h.ext ((Ext.refl B).alloc o)
theorem Lv.drew (h : Lv S A B) : Lv S A B.drew := h.ext (Ext.refl B).drew
theorem Lv.setCell (h : Lv S A B) {p : Addr} (hp : p.block < A.heap.size → S p.block) (u : Value) : Lv S A (B.setCell p u) :=
  ⟨Below.setCell h.1 (Nat.zero_le _) u, fun g hg hn => (Below.heap_setCell B p u g (fun e => hn (by subst e; exact hp hg))).trans (h.2 g hg hn)⟩
theorem Lv.grown (h : Lv S A B) {row : Option Nat} (hg : B.grownBy C row) (hr : ∀ k, row = some k → k < A.heap.size → S k) : Lv S A C :=
  ⟨Below.grown h.1 hg (Nat.zero_le _) (fun _ _ => Nat.zero_le _), fun g hlt hn => (hg.block g (Nat.lt_of_lt_of_le hlt h.size) (fun e => hn (hr g e.symm hlt))).trans (h.2 g hlt hn)⟩
theorem Lv.putObj (h : Lv S A B) {l : Nat} (hp : l < A.heap.size → S l) (o : Obj) : Lv S A (B.putObj l o) := h.grown (grownBy_putObj' B l o) (fun k e hk => by cases e; exact hp hk)
theorem Blk.lv {g : Nat} {o : Obj} (h : Blk A g o) (k : Lv S A B) (hS : ¬ S g) : Blk B g o := (k.2 g h.lt hS).trans h
theorem Lv.extBelow {w : World} (h : Ext w A) (k : Lv S A B) (hS : ∀ g, g < w.heap.size → ¬ S g) : Ext w B :=
  ⟨k.1.os.trans h.os, k.1.tape.trans h.tape, k.1.output.trans h.output, Nat.le_trans h.size k.size, fun g hg => (k.2 g (Nat.lt_of_lt_of_le hg h.size) (hS g hg)).trans (Below.block h g hg)⟩
end

/-- A block that holds no cells. -/
def NC (W : World) (g : Nat) : Prop := ∃ o : Obj, W.heap[g]? = some o ∧ o.isCells = false
theorem Blk.nc {W : World} {g : Nat} {cs : Array Value} {t : TypeId} {f : Nat × Nat} (h : Blk W g (.cells cs t f)) : ¬ NC W g := by
  rintro ⟨o, ho, hn⟩; unfold Blk at h; rw [h] at ho; cases ho; cases hn

/-- The iterator's steps turn the blocks of It alone. -/
def Abides {α : Type} (It : Nat → Prop) (J : List α → (Nat → Prop) → World → Prop) : Prop :=
  ∀ pre S W W', J pre S W → Lv It W W' → J pre S W'

/-- One round, as the iterator sees it: S is what the body may write. -/
def Round {α : Type} (P : Program) (l : Nat) (args : Array Value) (J Jx : List α → (Nat → Prop) → World → Prop) (pre : List α) (S : Nat → Prop) (W : World) : Prop :=
  YieldAt Fence.wide 0 P l args W fun e W' => ∃ S', Lv S W W' ∧ (∀ g, S' g → S g ∨ W.heap.size ≤ g) ∧ (∀ g, S' g → g < W'.heap.size) ∧ ((e = .returned (.bool true) ∧ J pre S' W') ∨ (e = .returned (.bool false) ∧ Jx pre S' W'))

/-- The iterator g yields xs, one after the other, wherever Pre holds; Enc says how a value comes. -/
def Iter {α : Type} (P : Program) (g : Nat) (lb : Array Value) (Enc : α → Array Value → (Nat → Prop) → World → Prop) (xs : List α) (It : Nat → Prop) (Pre : (Nat → Prop) → World → Prop) : Prop :=
  ∀ (l : Nat) (J Jx : List α → (Nat → Prop) → World → Prop) (S : Nat → Prop) (W : World), Pre S W → (∀ g, S g → g < W.heap.size) → Abides It J → Abides It Jx →
    (∀ pre x vs S1 W1, J pre S1 W1 → (pre ++ [x]) <+: xs → Enc x vs S1 W1 → Round P l vs J Jx (pre ++ [x]) S1 W1) → J [] S W →
    CallsIn Fence.wide 0 P g (#[.func (.yield l) #[] #[]] ++ lb) W fun e W' => (∃ v, e = .returned v) ∧ ((∃ S', J xs S' W') ∨ ∃ pre S', pre <+: xs ∧ Jx pre S' W')

theorem roundIn_any {n m : Nat} {P : Program} {l : Nat} {f : FuncId} {tmps : Array Value} {assign body : Code} {w : World} {R : Ending → World → Prop} (h : RoundIn Fence.wide n P l f tmps assign body w R) : RoundIn Fence.wide m P l f tmps assign body w R :=
  ⟨h.1, fun c cs _ => h.2 c cs (room_wide _)⟩

theorem wp_of_In {P : Program} {c : Code} {Q : Exit → Act → World → Prop} {a : Act} {w : World} (h : c.wpIn Fence.wide 0 P Q a w) : c.wp P Q a w := wpIn_wide.1 h

theorem calls_marks {P : Program} {f : FuncId} {fn : Func} {c : Code} {args : Array Value} {w : World} {R : Ending → World → Prop} (hf : P.funcs[f]? = some fn) (hb : fn.body = some c)
    (h : c.wp P (bodyPostM Fence.wide 0 P fn R) { tmps := args ++ Array.replicate (fn.ntmps - args.size) undef, defers := [] } w) : Calls P f args w R :=
  (callsIn_wide (n := 0)).1 (callsIn_of_wp_marks hf hb trivial (wpIn_wide.2 h) rfl)

/-- How the body of a round may be left. -/
def bodyQ {α : Type} (I : List α → (Nat → Prop) → World → Prop) (Ix : Code → List α → (Nat → Prop) → World → Prop) (xs : List α) (S : Nat → Prop) (W : World) : Exit → Act → World → Prop
  | .normal, _, W' => ∃ S', Lv S W W' ∧ (∀ g, S' g → S g ∨ W.heap.size ≤ g) ∧ (∀ g, S' g → g < W'.heap.size) ∧ I xs S' W'
  | .ret, _, W' => ∃ S', Lv S W W' ∧ (∀ g, S' g → S g ∨ W.heap.size ≤ g) ∧ (∀ g, S' g → g < W'.heap.size) ∧ Ix .ret xs S' W'
  | .exit id, _, W' => ∃ S', Lv S W W' ∧ (∀ g, S' g → S g ∨ W.heap.size ≤ g) ∧ (∀ g, S' g → g < W'.heap.size) ∧ Ix (.exit id) xs S' W'
  | .goto t, _, W' => ∃ S', Lv S W W' ∧ (∀ g, S' g → S g ∨ W.heap.size ≤ g) ∧ (∀ g, S' g → g < W'.heap.size) ∧ Ix (.goto t) xs S' W'
  | .panic _, _, _ => False
  | .outgrown, _, _ => False

/-- What the caller's word must abide. -/
def Firm {α : Type} (It : Nat → Prop) (n1 : Nat) (I : List α → (Nat → Prop) → World → Prop) : Prop :=
  ∀ pre S W W', I pre S W → Lv (fun g => It g ∨ (n1 ≤ g ∧ NC W g)) W W' → I pre S W'

theorem wpIn_range {α : Type} {P : Program} {g : Operand} {ps : Array Tmp} {assign body : Code} {Q : Exit → Act → World → Prop} {a : Act} {w : World}
    {gf : Nat} {lb : Array Value} (hg : a.eval g = .func (.func gf) #[] lb) (eg : ∀ args w, (callFunc gf args).run P w = .ok (.enter gf args) w)
    {Enc : α → Array Value → (Nat → Prop) → World → Prop} {xs : List α} {It : Nat → Prop} {Pre : (Nat → Prop) → World → Prop} (hit : Iter P gf lb Enc xs It Pre) (hps : ∀ x vs S W, Enc x vs S W → vs.size = ps.size)
    (hEv : ∀ x vs S W W', Enc x vs S W → Lv S W W' → Enc x vs S W') (hEs : ∀ x vs (S S' : Nat → Prop) W, Enc x vs S W → (∀ g, S' g → S g) → Enc x vs S' W)
    (hIt : ∀ g, It g → g < w.heap.size)
    (I : List α → (Nat → Prop) → World → Prop) (Ix : Code → List α → (Nat → Prop) → World → Prop) (hI : Firm It w.heap.size I) (hIx : ∀ c, Firm It w.heap.size (Ix c)) (S0 : Nat → Prop) (h0 : I [] S0 w) (hS0 : ∀ g, S0 g → g < w.heap.size)
    (hpre : ∀ S W, Ext w W → (∀ g, g < w.heap.size → S g → S0 g) → Pre S W) (a₁ : Array Value → Act)
    (hassign : ∀ (l : Nat) (x : α) (vs : Array Value) (S : Nat → Prop) (W : World) (K : Act → World → Prop), Enc x vs S W → K (a₁ vs) W →
      assign.wpIn (Fence.wide.inRound l) 0 P (Exit.then K (fun _ _ _ => False)) { tmps := (ps.zip vs).foldl (fun t (p, v) => t.setIfInBounds p v) a.tmps, defers := [] } W)
    (hbody : ∀ (l : Nat) (pre : List α) (x : α) (vs : Array Value) (S : Nat → Prop) (W : World), I pre S W → w.heap.size ≤ W.heap.size → (pre ++ [x]) <+: xs → Enc x vs S W → body.wpIn (Fence.wide.inRound l) 0 P (bodyQ I Ix (pre ++ [x]) S W) (a₁ vs) W)
    (hdone : ∀ (D : Nat) (S : Nat → Prop) (W : World), w.heap.size ≤ D → ¬ S D → I xs S W → W.heap[D]? = some (.deferred (some [])) → Q .normal { a with defers := { target := .collected D, args := #[] } :: a.defers } W)
    (hstop : ∀ (D : Nat) (c : Code) (pre : List α) (S : Nat → Prop) (W : World), w.heap.size ≤ D → ¬ S D → pre <+: xs → Ix c pre S W → W.heap[D]? = some (.deferred (some [])) → c.wpIn Fence.wide 0 P Q { a with defers := { target := .collected D, args := #[] } :: a.defers } W) :
    (Code.rangeFunc g ps assign body).wpIn Fence.wide 0 P Q a w := by
  refine wpIn_rangeFunc ?_
  intro fn hfn
  obtain ⟨rec, hrec⟩ : ∃ rec : LoopState → Option Code → Loop, rec = fun st pe => { state := st, pending := pe, fn, tmps := a.tmps, params := ps, assign, body, defers := w.heap.size } := ⟨_, rfl⟩
  obtain ⟨W1, hW1⟩ : ∃ W1, (w.alloc (.deferred (some []))).alloc (.loop (rec .ready none)) = W1 := ⟨_, rfl⟩
  have hsz : W1.heap.size = w.heap.size + 2 := by rw [← hW1]; simp
  have hL1 : W1.heap[w.heap.size + 1]? = some (.loop (rec .ready none)) := by
    rw [← hW1]; have := World.alloc_heap_new (w.alloc (.deferred (some []))) (.loop (rec .ready none)); rwa [World.size_alloc] at this
  have hK1 : W1.heap[w.heap.size]? = some (.deferred (some [])) := by
    rw [← hW1]; exact (Below.heap_alloc _ _ _ (by simp)).trans (World.alloc_heap_new w _)
  have hE1 : Ext w W1 := by rw [← hW1]; exact ((Ext.refl w).alloc _).alloc _
  have hI1 : I [] S0 W1 := hI _ _ _ _ h0 (Lv.of_ext hE1)
  have nIt1 : ¬ It w.heap.size := fun h => absurd (hIt _ h) (by omega)
  have nIt2 : ¬ It (w.heap.size + 1) := fun h => absurd (hIt _ h) (by omega)
  refine ⟨w.heap.size + 1, [{ target := .collected w.heap.size, args := #[] }], W1, { target := .fn (.func gf) lb, args := #[.func (.yield (w.heap.size + 1)) #[] #[]] }, W1, gf,
    #[.func (.yield (w.heap.size + 1)) #[] #[]] ++ lb, W1, ?_, ?_, ?_, ?_, fun h => (by cases h), ?_⟩
  · rw [← hW1, hrec]; exact run_enterLoop_outer _ _ _ _ _
  · simp only [resolve, hg]
    simp [go_sem]
  · intro f' _; trivial
  · simp [invoke, go_sem, eg]
  · refine (hit (w.heap.size + 1)
      (fun pre S W => ∃ S', I pre S' W ∧ ¬ S' w.heap.size ∧ ¬ S' (w.heap.size + 1) ∧ (S = fun g => S' g ∨ g = w.heap.size ∨ g = w.heap.size + 1) ∧ W1.heap.size ≤ W.heap.size ∧ W.heap[w.heap.size + 1]? = some (.loop (rec .ready none)) ∧ W.heap[w.heap.size]? = some (.deferred (some [])))
      (fun pre S W => ∃ c S', Ix c pre S' W ∧ ¬ S' w.heap.size ∧ ¬ S' (w.heap.size + 1) ∧ (S = fun g => S' g ∨ g = w.heap.size ∨ g = w.heap.size + 1) ∧ W1.heap.size ≤ W.heap.size ∧ W.heap[w.heap.size + 1]? = some (.loop (rec .done (some c))) ∧ W.heap[w.heap.size]? = some (.deferred (some [])))
      (fun g => S0 g ∨ g = w.heap.size ∨ g = w.heap.size + 1) W1 (hpre _ _ hE1 (fun g hg h => h.elim id (fun h => by omega))) (by rintro g (h | h); have := hS0 _ h; omega; omega) ?_ ?_ ?_
      ⟨S0, hI1, fun h => absurd (hS0 _ h) (by omega), fun h => absurd (hS0 _ h) (by omega), rfl, Nat.le_refl _, hL1, hK1⟩).mono ?_
    · rintro pre S A B ⟨S', hi, hn1, hn2, rfl, hle, hl, hk⟩ hv
      refine ⟨S', hI _ _ _ _ hi (hv.mono (fun g _ h => .inl h)), hn1, hn2, rfl, Nat.le_trans hle hv.size, ?_, ?_⟩
      · exact (hv.2 _ (by omega) nIt2).trans hl
      · exact (hv.2 _ (by omega) nIt1).trans hk
    · rintro pre S A B ⟨c, S', hi, hn1, hn2, rfl, hle, hl, hk⟩ hv
      refine ⟨c, S', hIx c _ _ _ _ hi (hv.mono (fun g _ h => .inl h)), hn1, hn2, rfl, Nat.le_trans hle hv.size, ?_, ?_⟩
      · exact (hv.2 _ (by omega) nIt2).trans hl
      · exact (hv.2 _ (by omega) nIt1).trans hk
    · -- one round
      rintro pre x vs S W ⟨S', hi, hn1, hn2, rfl, hle, hl, hk⟩ hpx henc
      have hlt : w.heap.size + 1 < W.heap.size := (Array.getElem?_eq_some_iff.1 hl).1
      have hy := run_yield (P := P) (args := vs) hl (by rw [hrec]; exact hps x _ _ _ henc)
      rw [hrec] at hy
      refine ⟨fn, _, assign, body, hy, roundIn_of_wpIn hfn (hassign _ x vs _ W _ henc ⟨_, run_beginRound hl (by rw [hrec]), ?_⟩)⟩
      obtain ⟨W2, hW2⟩ : ∃ W2, W.putObj (w.heap.size + 1) (.loop { rec .ready none with state := .busy }) = W2 := ⟨_, rfl⟩
      have hl2 : W2.heap[w.heap.size + 1]? = some (.loop { rec .ready none with state := .busy }) := by rw [← hW2]; exact World.putObj_heap_same hlt
      have hk2 : W2.heap[w.heap.size]? = some (.deferred (some [])) := by rw [← hW2]; exact (World.putObj_heap_other (by omega)).trans hk
      have hv2 : Lv (fun g => g = w.heap.size + 1) W W2 := by rw [← hW2]; exact Lv.putObj (S := fun g => g = w.heap.size + 1) (Lv.refl _ _) (fun _ => rfl) _
      have hs2 : W2.heap.size = W.heap.size := by rw [← hW2]; simp [World.putObj]
      have hi2 : I pre S' W2 := hI _ _ _ _ hi (hv2.mono (fun g _ h => by subst h; exact .inr ⟨by omega, _, hl, rfl⟩))
      have henc2 : Enc x vs S' W2 := hEs _ _ _ _ _ (hEv _ _ _ _ _ henc (hv2.mono (fun g _ h => .inr (.inr h)))) (fun g h => .inl h)
      rw [hW2]
      refine wpIn_mono (hbody _ pre x vs S' W2 hi2 (by omega) hpx henc2) ?_
      have fin : ∀ (jump : Option Code) (S3 : Nat → Prop) (W3 : World), Lv S' W2 W3 → (∀ g, S3 g → S' g ∨ W2.heap.size ≤ g) → (∀ g, S3 g → g < W3.heap.size) →
          (Instr.endRound (w.heap.size + 1) jump).run P W3 = .ok (.bool jump.isNone) (W3.putObj (w.heap.size + 1) (.loop (rec (if jump.isNone then .ready else .done) jump))) ∧
          (W3.putObj (w.heap.size + 1) (.loop (rec (if jump.isNone then .ready else .done) jump))).heap[w.heap.size + 1]? = some (.loop (rec (if jump.isNone then .ready else .done) jump)) ∧
          (W3.putObj (w.heap.size + 1) (.loop (rec (if jump.isNone then .ready else .done) jump))).heap[w.heap.size]? = some (.deferred (some [])) ∧
          W1.heap.size ≤ (W3.putObj (w.heap.size + 1) (.loop (rec (if jump.isNone then .ready else .done) jump))).heap.size ∧
          Lv (fun g => S' g ∨ g = w.heap.size ∨ g = w.heap.size + 1) W (W3.putObj (w.heap.size + 1) (.loop (rec (if jump.isNone then .ready else .done) jump))) ∧
          (∀ g, (S3 g ∨ g = w.heap.size ∨ g = w.heap.size + 1) → (S' g ∨ g = w.heap.size ∨ g = w.heap.size + 1) ∨ W.heap.size ≤ g) ∧
          (∀ g, (S3 g ∨ g = w.heap.size ∨ g = w.heap.size + 1) → g < (W3.putObj (w.heap.size + 1) (.loop (rec (if jump.isNone then .ready else .done) jump))).heap.size) ∧ ¬ S3 w.heap.size ∧ ¬ S3 (w.heap.size + 1) ∧
          Lv (fun g => It g ∨ (w.heap.size ≤ g ∧ NC W3 g)) W3 (W3.putObj (w.heap.size + 1) (.loop (rec (if jump.isNone then .ready else .done) jump))) := fun jump S3 W3 hv3 hs3 hz3 => by
        have hl3 : W3.heap[w.heap.size + 1]? = some (.loop { rec .ready none with state := .busy }) := (hv3.2 _ (by omega) hn2).trans hl2
        have hk3 : W3.heap[w.heap.size]? = some (.deferred (some [])) := (hv3.2 _ (by omega) hn1).trans hk2
        have n2 : ¬ S3 (w.heap.size + 1) := fun h => (hs3 _ h).elim hn2 (by omega)
        have n1 : ¬ S3 w.heap.size := fun h => (hs3 _ h).elim hn1 (by omega)
        have := run_endRound (P := P) jump hl3
        rw [hrec] at this ⊢
        refine ⟨this, World.putObj_heap_same (Array.getElem?_eq_some_iff.1 hl3).1, (World.putObj_heap_other (by omega)).trans hk3, ?_, ?_, ?_, ?_, n1, n2, (Lv.refl _ _).putObj (fun _ => .inr ⟨by omega, _, hl3, rfl⟩) _⟩
        · have := hv3.size; simp [World.putObj]; omega
        · exact ((hv2.mono (fun g _ h => .inr (.inr h))).trans hv3 (fun g _ h => .inl h)).putObj (fun _ => .inr (.inr rfl)) _
        · rintro g (h | h)
          · rcases hs3 g h with h | h
            · exact .inl (.inl h)
            · exact .inr (by omega)
          · exact .inl (.inr h)
        · have hz := hv3.size
          rintro g (h | h)
          · have := hz3 g h; simp [World.putObj]; omega
          · simp [World.putObj]; omega
      rintro e a3 W3 hp
      cases e with
      | normal =>
        obtain ⟨S3, hv3, hs3, hz3, hi3⟩ := hp
        obtain ⟨hr, hl4, hk4, hle4, hv4, hs4, hz4, n1, n2, hv5⟩ := fin none S3 W3 hv3 hs3 hz3
        exact ⟨_, _, hr, _, hv4, hs4, hz4, .inl ⟨rfl, S3, hI _ _ _ _ hi3 hv5, n1, n2, rfl, hle4, hl4, hk4⟩⟩
      | ret =>
        obtain ⟨S3, hv3, hs3, hz3, hi3⟩ := hp
        obtain ⟨hr, hl4, hk4, hle4, hv4, hs4, hz4, n1, n2, hv5⟩ := fin (some .ret) S3 W3 hv3 hs3 hz3
        exact ⟨_, _, hr, _, hv4, hs4, hz4, .inr ⟨rfl, .ret, S3, hIx _ _ _ _ _ hi3 hv5, n1, n2, rfl, hle4, hl4, hk4⟩⟩
      | exit id =>
        obtain ⟨S3, hv3, hs3, hz3, hi3⟩ := hp
        obtain ⟨hr, hl4, hk4, hle4, hv4, hs4, hz4, n1, n2, hv5⟩ := fin (some (.exit id)) S3 W3 hv3 hs3 hz3
        exact ⟨_, _, hr, _, hv4, hs4, hz4, .inr ⟨rfl, .exit id, S3, hIx _ _ _ _ _ hi3 hv5, n1, n2, rfl, hle4, hl4, hk4⟩⟩
      | goto t =>
        obtain ⟨S3, hv3, hs3, hz3, hi3⟩ := hp
        obtain ⟨hr, hl4, hk4, hle4, hv4, hs4, hz4, n1, n2, hv5⟩ := fin (some (.goto t)) S3 W3 hv3 hs3 hz3
        exact ⟨_, _, hr, _, hv4, hs4, hz4, .inr ⟨rfl, .goto t, S3, hIx _ _ _ _ _ hi3 hv5, n1, n2, rfl, hle4, hl4, hk4⟩⟩
      | panic ch => exact hp.elim
      | outgrown => exact hp.elim
    · -- behind the iterator
      rintro e W2 ⟨⟨v, rfl⟩, (⟨S, S', hi, hn1, hn2, _, hle, hl, hk⟩ | ⟨pre, S, hpx, c, S', hi, hn1, hn2, _, hle, hl, hk⟩)⟩
      · have hv : Lv (fun g => It g ∨ (w.heap.size ≤ g ∧ NC W2 g)) W2 (W2.putObj (w.heap.size + 1) (.loop { rec .ready none with state := .exhausted })) := (Lv.refl _ _).putObj (fun _ => .inr ⟨by omega, _, hl, rfl⟩) _
        exact ⟨none, _, by have := run_endLoop (P := P) hl (by rw [hrec]; simp); rw [hrec] at this; rw [hrec] at hv ⊢; exact this, hdone _ S' _ (Nat.le_refl _) hn1 (hI _ _ _ _ hi hv) ((World.putObj_heap_other (by omega)).trans hk)⟩
      · have hv : Lv (fun g => It g ∨ (w.heap.size ≤ g ∧ NC W2 g)) W2 (W2.putObj (w.heap.size + 1) (.loop { rec .done (some c) with state := .exhausted })) := (Lv.refl _ _).putObj (fun _ => .inr ⟨by omega, _, hl, rfl⟩) _
        exact ⟨some c, _, by have := run_endLoop (P := P) hl (by rw [hrec]; simp); rw [hrec] at this; rw [hrec] at hv ⊢; exact this, hstop _ c pre S' _ (Nat.le_refl _) hn1 hpx (hIx c _ _ _ _ hi hv) ((World.putObj_heap_other (by omega)).trans hk)⟩
/-- The same in a fence. -/
theorem wpListIn_append_size2 {P : Program} {w : World} {F : Fence} {n0 : Nat} {ops : Array Oper} {rest : List Oper} {o : Oper} {a : Act} {Q : Exit → Act → World → Prop} (hg : o.guard = none)
    (s x : Operand) (t : TypeId) (hop : o.op = .call { callee := .builtin .append, args := #[s, x], argTypes := #[t, t] })
    (base : Nat) (e : TypeId) (inf : TypeInfo) (z : Value) (size bytes : Nat) (ht : P.underlying t = some (.slice e)) (hi : P.info? e = some inf) (hz : inf.zero = some z)
    (hsize : inf.size = size) (hby : inf.bytes = bytes) (hzs : z.cells.size = size) (hsz : 0 < size) (v : Value) (n : Nat) (xs : List Value) (A : Option Addr) (m c : Nat) (news : List Value)
    (hs : a.eval s = v) (hx : a.eval x = .slice A m c) (hl : news.length = m * size) (h1 : ∀ u ∈ news, u.oneCell' = true) (h63 : n + m ≤ maxLen) (hbytes : (n + m) * bytes ≤ 140737488355328)
    (h2 : w.ownsRow base e size v n xs) (h3 : Cells w A news) (h4 : base ≤ w.heap.size)
    (h : ∀ v' w', w'.ownsRow base e size v' (n + m) (xs ++ news) → w.grownBy w' v.ownBlock → (v'.ownBlock = v.ownBlock ∨ ∃ g, v'.ownBlock = some g ∧ w.heap.size ≤ g) → wpListIn F n0 P ops Q rest (a.put o.dst v') w') : wpListIn F n0 P ops Q (o :: rest) a w := by
  refine wpListIn_plain hg fun K hK' => ?_
  obtain ⟨v', w', hrun, hown, hgrow, hblk⟩ := run_append_size2 (P := P) (w := w) base t o.type e inf z size bytes ht hi hz hsize hby hzs hsz v n xs h2 A m c news hl h3 h1 h63 hbytes h4
  unfold Oper.wpIn
  refine ⟨?_, ?_⟩
  · simp [Oper.about, hop, resolve, Target.leads, Sem.run_pure]
  · rw [Oper.semAt_plain F _ _ (by rw [hop]; intro c hc'; cases hc')]
    simp [execOp, hop, resolve, invoke, builtin, hs, hx, hrun, Result.andThen]
    exact hK' _ _ (h v' w' hown hgrow hblk)
end Go.Proofs.YtmmcjcaccicheaaGreatDoor
/- Contracts of the small functions. -/
namespace Go.Proofs.YtmmcjcaccicheaaGreatDoor
open Go.RowKit

set_option maxHeartbeats 400000 in
theorem same04_any (A B : Option Addr) (n m c d : Nat) (xs ys : List ByteArray) (w : World) (ha : Strs w A n xs) (hb : Strs w B m ys) (hn : n ≤ Reach) (hm : m ≤ Reach) :
    Calls Tryz.prog 20 #[.slice A n c, .slice B m d] w fun e w' => e = .returned (.bool (decide (xs = ys))) ∧ Ext w w' := by
  unfold Reach at hn hm
  have HA := Lib.hid ha; have HB := Lib.hid hb; clear ha hb
  by_cases hnm : n = m
  · subst hnm
    have h0 : ((n : Int) != (n : Int)) = false := by simp
    go_enter Tryz.func20, Tryz.ntmps20
    go_wp2
    go_loopw [5] (fun i wr => ∃ k : Nat, k ≤ n ∧ i = .int .i64 k ∧ xs.take k = ys.take k ∧ Ext w wr) (fun i _ => n - (intOf i).toNat)
    case atStart => exact ⟨0, Nat.zero_le _, rfl, rfl, Ext.refl _⟩
    case round =>
      obtain ⟨k, hk, rfl, htk, hE⟩ := hrel
      have HE := Lib.hid hE; have HT := Lib.hid htk; clear hE htk
      by_cases hlt : k < n
      · obtain ⟨b, off, s, rfl, hb1, hs1, hs2, hc1⟩ := (HA.out.ext HE.out).get hlt
        obtain ⟨b', off', s', rfl, hb1', hs1', hs2', hc1'⟩ := (HB.out.ext HE.out).get hlt
        have HS := Lib.hid hs1; have HS' := Lib.hid hs1'; clear hs1 hs1'
        go_wp2
        go_quiet (fail)
        go_wp2
        · go_ret
          have hne : (!s.toList == s'.toList) = true := by assumption
          refine ⟨?_, HE.out.drewN _⟩
          have : xs ≠ ys := fun e => by
            have h1 := HS.out; rw [e, HS'.out] at h1
            obtain rfl : s' = s := by simpa using h1
            simp at hne
          simp [this]
        · have heq : (!s.toList == s'.toList) = false := by assumption
          go_roundw
          case rel => exact ⟨k + 1, by omega, by go_num, by rw [take_succ_of HS.out, take_succ_of HS'.out, HT.out, toList_eq heq], HE.out.drewN _⟩
          case measure => simp [intOf]; omega
      · go_wp2
        go_ret
        refine ⟨?_, HE.out⟩
        have : xs = ys := by
          have h1 := HT.out
          rwa [List.take_of_length_le (by rw [HA.out.1]; omega), List.take_of_length_le (by rw [HB.out.1]; omega)] at h1
        simp [this]
  · have h0 : ((n : Int) != (m : Int)) = true := by simp; omega
    go_enter Tryz.func20, Tryz.ntmps20
    go_wp2
    go_ret
    refine ⟨?_, Ext.refl _⟩
    have : xs ≠ ys := fun e => hnm (by rw [← HA.out.1, ← HB.out.1, e])
    simp [this]

/-- The length of all strings together, as Go adds it up. -/
def wsum (l : List ByteArray) : Int := l.foldl (fun t s => wrap64 (t + s.size)) 0
theorem wsum_snoc (l : List ByteArray) (s : ByteArray) : wsum (l ++ [s]) = wrap64 (wsum l + s.size) := by simp [wsum]
def great04 (l : List ByteArray) : Bool := decide (40 < l.length) || decide (3000 < wsum l)

set_option maxHeartbeats 400000 in
theorem great04_any (A : Option Addr) (n c : Nat) (xs : List ByteArray) (w : World) (ha : Strs w A n xs) (hn : n ≤ Reach) :
    Calls Tryz.prog 5 #[.slice A n c] w fun e w' => e = .returned (.bool (great04 xs)) ∧ w = w' := by
  unfold Reach at hn
  have HA := Lib.hid ha; clear ha
  go_enter Tryz.func5, Tryz.ntmps5
  go_wp2
  go_loop [3, 4] (fun t i => ∃ k : Nat, k ≤ n ∧ i = .int .i64 k ∧ t = .int .i64 (wsum (xs.take k))) (fun _ i => n - (intOf i).toNat)
  case atStart => exact ⟨0, Nat.zero_le _, rfl, rfl⟩
  case round =>
    obtain ⟨k, hk, rfl, rfl⟩ := hrel
    by_cases hlt : k < n
    · obtain ⟨b, off, s, rfl, hb1, hs1, hs2, hc1⟩ := HA.out.get hlt
      have HS := Lib.hid hs1; clear hs1
      go_wp2
      go_round
      case rel => exact ⟨k + 1, by omega, by go_num, by rw [take_succ_of HS.out, wsum_snoc]⟩
      case measure => simp [intOf]; omega
    · have hkn : xs.take k = xs := List.take_of_length_le (by rw [HA.out.1]; omega)
      have HK := Lib.hid hkn; clear hkn
      go_wp2
      all_goals go_ret
      · exact ⟨ret_bool (by rw [HK.out, great04, HA.out.1, Bool.eq_iff_iff]; simp only [Bool.or_eq_true, decide_eq_true_eq]; omega), rfl⟩
      · have h40 : (40 : Int) < n := by assumption
        exact ⟨ret_bool (by rw [great04, HA.out.1]; simp; omega), rfl⟩

end Go.Proofs.YtmmcjcaccicheaaGreatDoor
/- What is known of a world: a list of blocks. No condition. -/
namespace Go.Proofs.YtmmcjcaccicheaaGreatDoor
open Go.RowKit

/-- From w0 on nothing old has turned, and the blocks of L are known. -/
def Know (w0 : World) (L : List (Nat × Obj)) (wx : World) : Prop := Ext w0 wx ∧ ∀ p ∈ L, Blk wx p.1 p.2
section
variable {w0 wx wy : World} {L : List (Nat × Obj)}
theorem Know.start (w : World) : Know w [] w := ⟨Ext.refl w, by simp⟩
theorem Know.ext (h : Know w0 L wx) (e : Ext wx wy) : Know w0 L wy := ⟨h.1.trans e, fun p hp => (h.2 p hp).ext e⟩
theorem Know.new (h : Know w0 L wx) (o : Obj) {g : Nat} (hg : g = wx.heap.size) : Know w0 ((g, o) :: L) (wx.alloc o) :=
  ⟨h.1.alloc o, fun p hp => by
    rcases List.mem_cons.1 hp with rfl | hp
    · exact Blk.new wx o hg
    · exact (h.2 p hp).alloc o⟩
theorem Know.drew (h : Know w0 L wx) : Know w0 L wx.drew := h.ext (Ext.refl wx).drew
theorem Know.stab (w0 : World) (L : List (Nat × Obj)) : Stab (Know w0 L) := fun _ _ e h => h.ext e
theorem Know.at (h : Know w0 L wx) (i : Nat) {g : Nat} {o : Obj} (hi : nth L i = some (g, o)) : Blk wx g o := h.2 (g, o) (List.mem_of_getElem? (by rw [← nth_eq]; exact hi))
theorem Know.lt (h : Know w0 L wx) (i : Nat) {g : Nat} {o : Obj} (hi : nth L i = some (g, o)) : g < wx.heap.size := (h.at i hi).lt
/-- A store of three cells into a block that L does not name. -/
theorem Know.set3 (h : Know w0 L wx) {k : Nat} (hk : w0.heap.size ≤ k) (hL : ∀ p ∈ L, p.1 ≠ k) (x y z : Value) : Know w0 L (((wx.setCell ⟨k, 0, none⟩ x).setCell ⟨k, 1, none⟩ y).setCell ⟨k, 2, none⟩ z) :=
  ⟨h.1.set3 hk _ _ _, fun p hp => (h.2 p hp).far3 (hL p hp) _ _ _⟩
theorem Know.cons (h : Know w0 L wx) {g : Nat} {o : Obj} (hb : Blk wx g o) : Know w0 ((g, o) :: L) wx :=
  ⟨h.1, fun p hp => by
    rcases List.mem_cons.1 hp with rfl | hp
    · exact hb
    · exact h.2 p hp⟩
end
end Go.Proofs.YtmmcjcaccicheaaGreatDoor
/- The contract of slices.Equal at slices of strings. No condition. -/
namespace Go.Proofs.YtmmcjcaccicheaaGreatDoor
open Go.RowKit

set_option maxHeartbeats 400000 in
theorem equal_any (A B : Option Addr) (n m c d : Nat) (xs ys : List ByteArray) (w : World) (ha : Strs w A n xs) (hb : Strs w B m ys) (hn : n ≤ Reach) (hm : m ≤ Reach) :
    Calls Tryz.prog 61 #[.slice A n c, .slice B m d] w fun e w' => e = .returned (.bool (decide (xs = ys))) ∧ Ext w w' := by
  unfold Reach at hn hm
  have HA := Lib.hid ha; have HB := Lib.hid hb; clear ha hb
  by_cases hnm : n = m
  · subst hnm
    have h0 : ((n : Int) != (n : Int)) = false := by simp
    go_enter Tryz.func61, Tryz.ntmps61
    go_wp2
    go_loopw [13] (fun i wr => ∃ k : Nat, k ≤ n ∧ i = .int .i64 k ∧ xs.take k = ys.take k ∧ Ext w wr) (fun i _ => n - (intOf i).toNat)
    case atStart => exact ⟨0, Nat.zero_le _, rfl, rfl, Ext.refl _⟩
    case round =>
      obtain ⟨k, hk, rfl, htk, hE⟩ := hrel
      have HE := Lib.hid hE; have HT := Lib.hid htk; clear hE htk
      by_cases hlt : k < n
      · obtain ⟨b, off, s, rfl, hb1, hs1, hs2, hc1⟩ := (HA.out.ext HE.out).get hlt
        obtain ⟨b', off', s', rfl, hb1', hs1', hs2', hc1'⟩ := (HB.out.ext HE.out).get hlt
        have HS := Lib.hid hs1; have HS' := Lib.hid hs1'; clear hs1 hs1'
        go_wp2
        go_quiet (fail)
        go_wp2
        · go_ret
          have hne : (!s.toList == s'.toList) = true := by assumption
          refine ⟨?_, HE.out.drewN _⟩
          have : xs ≠ ys := fun e => by
            have h1 := HS.out; rw [e, HS'.out] at h1
            obtain rfl : s' = s := by simpa using h1
            simp at hne
          simp [this]
        · have heq : (!s.toList == s'.toList) = false := by assumption
          go_roundw
          case rel => exact ⟨k + 1, by omega, by go_num, by rw [take_succ_of HS.out, take_succ_of HS'.out, HT.out, toList_eq heq], HE.out.drewN _⟩
          case measure => simp [intOf]; omega
      · go_wp2
        go_ret
        refine ⟨?_, HE.out⟩
        have : xs = ys := by
          have h1 := HT.out
          rwa [List.take_of_length_le (by rw [HA.out.1]; omega), List.take_of_length_le (by rw [HB.out.1]; omega)] at h1
        simp [this]
  · have h0 : ((n : Int) != (m : Int)) = true := by simp; omega
    go_enter Tryz.func61, Tryz.ntmps61
    go_wp2
    go_ret
    refine ⟨?_, Ext.refl _⟩
    have : xs ≠ ys := fun e => hnm (by rw [← HA.out.1, ← HB.out.1, e])
    simp [this]
theorem strs_cut {w : World} {A A' : Option Addr} {n c lo k : Nat} {ss : List ByteArray} (h : Strs w A n ss) (hn : n ≤ c) (hi : lo + k ≤ n) (hA : (if c = lo then A else A.map (fun x => x.add lo)) = A') :
    Strs w A' k ((ss.drop lo).take k) := by
  subst hA
  refine ⟨by rw [List.length_take, List.length_drop, h.1]; omega, fun s hs => h.2.1 s (List.mem_of_mem_drop (List.mem_of_mem_take hs)), ?_⟩
  have := (h.2.2.cut (k := lo) (size := 1) (cap := c) (by rw [List.length_map, h.1]; omega)).take k
  simpa [List.map_take, List.map_drop] using this

theorem equal_is {A B : Option Addr} {n m c d : Nat} {xs ys : List ByteArray} {r : Bool} (w : World) (ha : Strs w A n xs) (hb : Strs w B m ys) (hn : n ≤ Reach) (hm : m ≤ Reach) (hr : decide (xs = ys) = r) :
    Calls Tryz.prog 61 #[.slice A n c, .slice B m d] w fun e w' => e = .returned (.bool r) ∧ Ext w w' := by
  subst hr; exact equal_any A B n m c d xs ys w ha hb hn hm

theorem nd {p : Prop} [Decidable p] (h : ¬ p) : decide p = false := by simpa using h
theorem yd {p : Prop} [Decidable p] (h : p) : decide p = true := by simpa using h
end Go.Proofs.YtmmcjcaccicheaaGreatDoor
/- Matches: their values in memory; slices.Reverse, Same, Kept. -/
namespace Go.Proofs.YtmmcjcaccicheaaGreatDoor
open Go.RowKit

/-- A match. -/
structure Mt where
  a : Int
  b : Int
  n : Int
deriving DecidableEq
def Mt.cells (m : Mt) : List Value := [.int .i64 m.a, .int .i64 m.b, .int .i64 m.n]
def Mt.val (m : Mt) : Value := .agg #[.int .i64 m.a, .int .i64 m.b, .int .i64 m.n]
abbrev Mt.obj (m : Mt) : Obj := .cells #[.int .i64 m.a, .int .i64 m.b, .int .i64 m.n] 104
def I64 (x : Int) : Prop := -9223372036854775808 ≤ x ∧ x ≤ 9223372036854775807
def Mt.wf (m : Mt) : Prop := I64 m.a ∧ I64 m.b ∧ I64 m.n
theorem mt_cells_len (m : Mt) : m.cells.length = 3 := rfl

theorem flat_len {α : Type} {f : α → List Value} {k : Nat} (hf : ∀ x, (f x).length = k) : ∀ l : List α, (l.flatMap f).length = l.length * k
  | [] => by simp
  | x :: l => by rw [List.flatMap_cons, List.length_append, hf, flat_len hf l, List.length_cons, Nat.add_mul]; omega
theorem flat_get {α : Type} {f : α → List Value} {k : Nat} (hf : ∀ x, (f x).length = k) : ∀ (l : List α) (i j : Nat) (x : α), l[i]? = some x → j < k → (l.flatMap f)[i * k + j]? = (f x)[j]?
  | [], i, j, x, h, _ => by simp at h
  | y :: l, 0, j, x, h, hj => by
    obtain rfl : y = x := by simpa using h
    rw [List.flatMap_cons, Nat.zero_mul, Nat.zero_add, List.getElem?_append_left (by rw [hf]; exact hj)]
  | y :: l, i + 1, j, x, h, hj => by
    rw [List.flatMap_cons, List.getElem?_append_right (by rw [hf, Nat.add_mul]; omega), hf]
    rw [show (i + 1) * k + j - k = i * k + j by rw [Nat.add_mul]; omega]
    exact flat_get hf l i j x (by simpa using h) hj

/-- From address A on lie the n matches ms. -/
def Mts (w : World) (A : Option Addr) (n : Nat) (ms : List Mt) : Prop := ms.length = n ∧ (∀ m ∈ ms, m.wf) ∧ Cells w A (ms.flatMap Mt.cells)
section
variable {w w' : World} {A : Option Addr} {n : Nat} {ms : List Mt}
theorem Mts.ext (h : Mts w A n ms) (e : Ext w w') : Mts w' A n ms := ⟨h.1, h.2.1, h.2.2.ext e⟩
theorem Mts.get (h : Mts w A n ms) {k : Nat} (hk : k < n) : ∃ b off m, A = some ⟨b, off, none⟩ ∧ b < w.heap.size ∧ ms[k]? = some m ∧ m.wf ∧ w.cell? ⟨b, off + k * 3, none⟩ = some (.int .i64 m.a) ∧ w.cell? ⟨b, off + k * 3 + 1, none⟩ = some (.int .i64 m.b) ∧ w.cell? ⟨b, off + k * 3 + 2, none⟩ = some (.int .i64 m.n) := by
  have hl : k < ms.length := by rw [h.1]; exact hk
  have hlf := flat_len mt_cells_len ms
  obtain ⟨b, off, h1, h2, h3⟩ := h.2.2.get (k := k * 3) (by rw [hlf]; omega)
  have hx : ms[k]? = some ms[k] := List.getElem?_eq_getElem hl
  have g := fun j hj => flat_get mt_cells_len ms k j _ hx hj
  refine ⟨b, off, ms[k], h1, h2, hx, h.2.1 _ (List.getElem_mem hl), ?_, ?_, ?_⟩
  · have := h3 (k * 3 + 0) (.int .i64 ms[k].a) (by rw [g 0 (by omega)]; rfl); simpa using this
  · have := h3 (k * 3 + 1) (.int .i64 ms[k].b) (by rw [g 1 (by omega)]; rfl); simpa [Nat.add_assoc] using this
  · have := h3 (k * 3 + 2) (.int .i64 ms[k].n) (by rw [g 2 (by omega)]; rfl); simpa [Nat.add_assoc] using this
theorem Mts.nil (w : World) (A : Option Addr) : Mts w A 0 [] := ⟨rfl, by simp, Cells.nil w _⟩
end

end Go.Proofs.YtmmcjcaccicheaaGreatDoor
/- Contracts of the small functions of myers: table.at. -/
namespace Go.Proofs.YtmmcjcaccicheaaGreatDoor
open Go.RowKit

/-- From address A on lie the n numbers xs. -/
def Ints (w : World) (A : Option Addr) (n : Nat) (xs : List Int) : Prop := xs.length = n ∧ Cells w A (xs.map (.int .i64))
section
variable {w w' : World} {A : Option Addr} {n : Nat} {xs : List Int}
theorem Ints.ext (h : Ints w A n xs) (e : Ext w w') : Ints w' A n xs := ⟨h.1, h.2.ext e⟩
theorem Ints.get (h : Ints w A n xs) {k : Nat} (hk : k < n) : ∃ b off x, A = some ⟨b, off, none⟩ ∧ b < w.heap.size ∧ xs[k]? = some x ∧ w.cell? ⟨b, off + k, none⟩ = some (.int .i64 x) := by
  have hl : k < xs.length := by rw [h.1]; exact hk
  obtain ⟨b, off, h1, h2, h3⟩ := h.2.get (k := k) (by simpa using hl)
  exact ⟨b, off, xs[k], h1, h2, List.getElem?_eq_getElem hl, h3 k _ (by simp [hl])⟩
end

/-- The number of a diagonal in a table. -/
def atV (t : List Int) (k : Int) : Option Int :=
  if k < -((t.length : Int) - 1) ∨ (t.length : Int) - 1 < k ∨ (k + ((t.length : Int) - 1)) % 2 ≠ 0 then none else t[((k + ((t.length : Int) - 1)) / 2).toNat]?

def resAt : Option Int → Value
  | none => .tuple #[.int .i64 0, .bool false]
  | some x => .tuple #[.int .i64 x, .bool true]

set_option maxHeartbeats 1000000 in
theorem at_any (A : Option Addr) (n c : Nat) (t : List Int) (k : Int) (w : World) (ht : Ints w A n t) (hn : n ≤ 1000) (hk : -1000 ≤ k) (hk' : k ≤ 1000) :
    Calls Tryz.prog 24 #[.slice A n c, .int .i64 k] w fun e w' => e = .returned (resAt (atV t k)) ∧ w = w' := by
  have HT := Lib.hid ht; clear ht
  obtain rfl : t.length = n := HT.out.1
  by_cases h1 : k < -((t.length : Int) - 1)
  · go_enter Tryz.func24, Tryz.ntmps24
    go_wp2_with fail
    exact bodyPost_ret (v := .tuple #[.int .i64 0, .bool false]) (by simp [results, Tryz.results24, go_sem]) rfl ⟨by rw [atV, if_pos (.inl h1)]; rfl, rfl⟩
  by_cases h2 : (t.length : Int) - 1 < k
  · go_enter Tryz.func24, Tryz.ntmps24
    go_wp2_with fail
    exact bodyPost_ret (v := .tuple #[.int .i64 0, .bool false]) (by simp [results, Tryz.results24, go_sem]) rfl ⟨by rw [atV, if_pos (.inr (.inl h2))]; rfl, rfl⟩
  have h5 : wrap64 (k + ((t.length : Int) - 1)) = k + ((t.length : Int) - 1) := by unfold wrap64; omega
  by_cases h3 : (k + ((t.length : Int) - 1)) % 2 ≠ 0
  · have h4 : ((k + ((t.length : Int) - 1)) % 2 != 0) = true := by simpa using h3
    go_enter Tryz.func24, Tryz.ntmps24
    go_wp2_with fail
    exact bodyPost_ret (v := .tuple #[.int .i64 0, .bool false]) (by simp [results, Tryz.results24, go_sem]) rfl ⟨by rw [atV, if_pos (.inr (.inr h3))]; rfl, rfl⟩
  have h4 : ((k + ((t.length : Int) - 1)) % 2 != 0) = false := by simpa using h3
  obtain ⟨q, hq⟩ : ∃ q : Nat, (k + ((t.length : Int) - 1)) / 2 = q := ⟨((k + ((t.length : Int) - 1)) / 2).toNat, by omega⟩
  have hql : q < t.length := by omega
  obtain ⟨b, off, x, rfl, hb, hx, hc⟩ := HT.out.get hql
  have HX := Lib.hid hx; clear hx
  have hV : atV t k = some x := by
    rw [atV, if_neg (fun h => h.elim h1 fun h => h.elim h2 h3), hq]
    simpa using HX.out
  have HV := Lib.hid hV; clear hV
  go_enter Tryz.func24, Tryz.ntmps24
  go_wp2_with fail
  exact bodyPost_ret (v := .tuple #[.int .i64 x, .bool true]) (by simp [results, Tryz.results24, go_sem]) rfl ⟨by rw [HV.out]; rfl, rfl⟩
end Go.Proofs.YtmmcjcaccicheaaGreatDoor

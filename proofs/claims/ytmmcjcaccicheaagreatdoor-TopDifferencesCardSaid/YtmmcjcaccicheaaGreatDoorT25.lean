/- UdMem UdRow UdPMem UdHMem: parts of the proof of TopDifferences, one text behind the other. No condition. -/
import Derived.Test.YtmmcjcaccicheaaGreatDoorT23
import Derived.Test.YtmmcjcaccicheaaGreatDoorT03
import Derived.Test.YtmmcjcaccicheaaGreatDoorT24
import Derived.Test.YtmmcjcaccicheaaGreatDoorT08
import Derived.Test.YtmmcjcaccicheaaGreatDoorT06
/- Hunks, blocks in memory, as plain values. No condition. -/
namespace Go.Proofs.YtmmcjcaccicheaaGreatDoor
open Go.RowKit

theorem mem_of_get {α : Type} {l : List α} {k : Nat} {x : α} (h : l[k]? = some x) : x ∈ l := List.mem_of_getElem? h

/-! ### Hunks -/
/-- The hunk h in memory reads as x. -/
structure HRel (w : World) (h : Hk) (x : Hp) : Prop where
  at_ : h.at_ = x.at_
  oc : h.ol ≤ h.oc
  nc : h.nl ≤ h.nc
  old : Strs w h.oa h.ol x.old
  new : Strs w h.na h.nl x.new
  ol : h.ol ≤ Reach
  nl : h.nl ≤ Reach
theorem HRel.ext {w w' : World} {h : Hk} {x : Hp} (r : HRel w h x) (e : Ext w w') : HRel w' h x := ⟨r.at_, r.oc, r.nc, r.old.ext e, r.new.ext e, r.ol, r.nl⟩
/-- From address A on lie n hunks that read as xs. -/
def Hps (w : World) (A : Option Addr) (n : Nat) (xs : List Hp) : Prop :=
  ∃ hs : List Hk, Hks w A n hs ∧ xs.length = n ∧ ∀ (k : Nat) (h : Hk) (x : Hp), hs[k]? = some h → xs[k]? = some x → HRel w h x
section
variable {w w' : World} {A : Option Addr} {n : Nat} {xs : List Hp}
theorem Hps.ext (h : Hps w A n xs) (e : Ext w w') : Hps w' A n xs := by
  obtain ⟨hs, h1, h2, h3⟩ := h
  exact ⟨hs, h1.ext e, h2, fun k h x a b => (h3 k h x a b).ext e⟩
theorem Hps.len (h : Hps w A n xs) : xs.length = n := by obtain ⟨_, _, h, _⟩ := h; exact h
theorem Hps.get (h : Hps w A n xs) {k : Nat} (hk : k < n) : ∃ b off y x, A = some ⟨b, off, none⟩ ∧ b < w.heap.size ∧ xs[k]? = some x ∧ HRel w y x ∧ w.cell? ⟨b, off + k * 3, none⟩ = some (.int .i64 y.at_) ∧
    w.cell? ⟨b, off + k * 3 + 1, none⟩ = some (.slice y.oa y.ol y.oc) ∧ w.cell? ⟨b, off + k * 3 + 2, none⟩ = some (.slice y.na y.nl y.nc) := by
  obtain ⟨hs, h1, h2, h3⟩ := h
  obtain ⟨b, off, y, e1, e2, e3, e4, e5, e6, e7⟩ := h1.get hk
  have hx : xs[k]? = some (xs[k]'(by omega)) := List.getElem?_eq_getElem (by omega)
  exact ⟨b, off, y, _, e1, e2, hx, h3 k y _ e3 hx, e5, e6, e7⟩
theorem Hps.nil (w : World) (A : Option Addr) : Hps w A 0 [] := ⟨[], ⟨rfl, by simp, Cells.nil _ _⟩, rfl, by simp⟩
end

/-! ### Blocks -/
/-- A block as a Go value. -/
structure BkM where
  oa : Int
  ol : Int
  na : Int
  nl : Int
  la : Option Addr
  ln : Nat
  lc : Nat
abbrev BkM.cells (m : BkM) : List Value := [.int .i64 m.oa, .int .i64 m.ol, .int .i64 m.na, .int .i64 m.nl, .slice m.la m.ln m.lc]
abbrev BkM.val (m : BkM) : Value := .agg #[.int .i64 m.oa, .int .i64 m.ol, .int .i64 m.na, .int .i64 m.nl, .slice m.la m.ln m.lc]
abbrev BkM.obj (m : BkM) : Obj := .cells #[.int .i64 m.oa, .int .i64 m.ol, .int .i64 m.na, .int .i64 m.nl, .slice m.la m.ln m.lc] 80
structure BRel (w : World) (m : BkM) (x : Bk) : Prop where
  oa : m.oa = x.oa
  ol : m.ol = x.ol
  na : m.na = x.na
  nl : m.nl = x.nl
  lc : m.ln ≤ m.lc
  ln : m.ln ≤ Reach
  ls : Strs w m.la m.ln (x.ls.map lnS)
theorem BRel.ext {w w' : World} {m : BkM} {x : Bk} (r : BRel w m x) (e : Ext w w') : BRel w' m x := ⟨r.oa, r.ol, r.na, r.nl, r.lc, r.ln, r.ls.ext e⟩
/-- From address A on lie n blocks that read as xs. -/
def Bks (w : World) (A : Option Addr) (n : Nat) (xs : List Bk) : Prop :=
  ∃ ms : List BkM, ms.length = n ∧ xs.length = n ∧ Cells w A (ms.flatMap BkM.cells) ∧ ∀ (k : Nat) (m : BkM) (x : Bk), ms[k]? = some m → xs[k]? = some x → BRel w m x
section
variable {w w' : World} {A : Option Addr} {n : Nat} {xs : List Bk}
theorem Bks.ext (h : Bks w A n xs) (e : Ext w w') : Bks w' A n xs := by
  obtain ⟨ms, h1, h2, h3, h4⟩ := h
  exact ⟨ms, h1, h2, h3.ext e, fun k m x a b => (h4 k m x a b).ext e⟩
theorem Bks.len (h : Bks w A n xs) : xs.length = n := by obtain ⟨_, _, h, _⟩ := h; exact h
theorem Bks.nil (w : World) (A : Option Addr) : Bks w A 0 [] := ⟨[], rfl, rfl, Cells.nil _ _, by simp⟩
theorem bk_cells_len (m : BkM) : m.cells.length = 5 := rfl
theorem Bks.get (h : Bks w A n xs) {k : Nat} (hk : k < n) : ∃ b off m x, A = some ⟨b, off, none⟩ ∧ b < w.heap.size ∧ xs[k]? = some x ∧ BRel w m x ∧ w.cell? ⟨b, off + k * 5, none⟩ = some (.int .i64 m.oa) ∧
    w.cell? ⟨b, off + k * 5 + 1, none⟩ = some (.int .i64 m.ol) ∧ w.cell? ⟨b, off + k * 5 + 2, none⟩ = some (.int .i64 m.na) ∧ w.cell? ⟨b, off + k * 5 + 3, none⟩ = some (.int .i64 m.nl) ∧ w.cell? ⟨b, off + k * 5 + 4, none⟩ = some (.slice m.la m.ln m.lc) := by
  obtain ⟨ms, h1, h2, h3, h4⟩ := h
  have hm : ms[k]? = some (ms[k]'(by omega)) := List.getElem?_eq_getElem (by omega)
  have hx : xs[k]? = some (xs[k]'(by omega)) := List.getElem?_eq_getElem (by omega)
  obtain ⟨b, off, e1, e2, e3⟩ := h3.get (k := k * 5) (by rw [flat_len bk_cells_len]; omega)
  have g := fun j hj => flat_get bk_cells_len ms k j _ hm hj
  refine ⟨b, off, _, _, e1, e2, hx, h4 k _ _ hm hx, ?_, ?_, ?_, ?_, ?_⟩
  · simpa using e3 (k * 5 + 0) _ (g 0 (by omega))
  · simpa [Nat.add_assoc] using e3 (k * 5 + 1) _ (g 1 (by omega))
  · simpa [Nat.add_assoc] using e3 (k * 5 + 2) _ (g 2 (by omega))
  · simpa [Nat.add_assoc] using e3 (k * 5 + 3) _ (g 3 (by omega))
  · simpa [Nat.add_assoc] using e3 (k * 5 + 4) _ (g 4 (by omega))
end

/-! ### Counts of a body -/
def cK : Bdy → Nat
  | [] => 0
  | x :: r => (if x.t = .ctx then 1 else 0) + cK r
def cD : Bdy → Nat
  | [] => 0
  | x :: r => (if x.t = .del then 1 else 0) + cD r
def cA : Bdy → Nat
  | [] => 0
  | x :: r => (if x.t = .add then 1 else 0) + cA r
theorem cK_snoc (x : Ln) : ∀ b, cK (b ++ [x]) = cK b + (if x.t = .ctx then 1 else 0)
  | [] => by simp [cK]
  | y :: b => by simp only [List.cons_append, cK, cK_snoc x b]; omega
theorem cD_snoc (x : Ln) : ∀ b, cD (b ++ [x]) = cD b + (if x.t = .del then 1 else 0)
  | [] => by simp [cD]
  | y :: b => by simp only [List.cons_append, cD, cD_snoc x b]; omega
theorem cA_snoc (x : Ln) : ∀ b, cA (b ++ [x]) = cA b + (if x.t = .add then 1 else 0)
  | [] => by simp [cA]
  | y :: b => by simp only [List.cons_append, cA, cA_snoc x b]; omega
theorem c_old (b : Bdy) : (oldB b).length = cK b + cD b := by
  induction b with
  | nil => rfl
  | cons x r ih => rcases x with ⟨t, s⟩; cases t <;> simp [oldB, cK, cD, ih] <;> omega
theorem c_new (b : Bdy) : (newB b).length = cK b + cA b := by
  induction b with
  | nil => rfl
  | cons x r ih => rcases x with ⟨t, s⟩; cases t <;> simp [newB, cK, cA, ih] <;> omega
theorem c_le (b : Bdy) : cK b + cD b + cA b = b.length := by
  induction b with
  | nil => rfl
  | cons x r ih => rcases x with ⟨t, s⟩; cases t <;> simp [cK, cD, cA] <;> omega
theorem c_chg {b : Bdy} (h : chg b) : 0 < cD b + cA b := by
  obtain ⟨x, hx, ht⟩ := h
  induction b with
  | nil => simp at hx
  | cons y r ih =>
    rcases List.mem_cons.1 hx with rfl | hx
    · rcases x with ⟨t, s⟩; cases t
      · exact absurd rfl ht
      · simp [cD]; omega
      · simp [cA]; omega
    · have := ih hx
      simp only [cD, cA]; omega
theorem lnS_size (x : Ln) : (lnS x).size = x.s.size + 1 := by
  show (sgn x.t :: x.s.data.toList).toArray.size = _
  simp
end Go.Proofs.YtmmcjcaccicheaaGreatDoor
/- SRows of strings that grow, each in a block of its own; a list of blocks whose lines are such rows. No condition. -/
namespace Go.Proofs.YtmmcjcaccicheaaGreatDoor
open Go.RowKit

theorem snoc_inj {α : Type} {a b : List α} {x y : α} (h : a ++ [x] = b ++ [y]) : a = b ∧ x = y := by
  have h1 := congrArg List.reverse h
  simp only [List.reverse_append, List.reverse_singleton, List.singleton_append, List.cons.injEq] at h1
  exact ⟨List.reverse_inj.1 h1.2, h1.1⟩
theorem own_ty {w : World} {base : Nat} {e : TypeId} {size n : Nat} {v : Value} {xs : List Value} (h : w.ownsRow base e size v n xs) {k : Nat} (hk : v.ownBlock = some k) : base ≤ k ∧ ∃ cs, Blk w k (.cells cs e (0, 0)) := own_blk h hk
/-- SRows of elements of different types lie in different blocks. -/
theorem own_sep {w : World} {b b' : Nat} {e e' : TypeId} {s s' n n' : Nat} {v v' : Value} {xs xs' : List Value} (h : w.ownsRow b e s v n xs) (h' : w.ownsRow b' e' s' v' n' xs') (hne : e ≠ e') {g : Nat} (hg : v.ownBlock = some g) : v'.ownBlock ≠ some g := fun hg' => by
  obtain ⟨_, c, hc⟩ := own_blk h hg
  obtain ⟨_, c', hc'⟩ := own_blk h' hg'
  exact hne (blk_type hc hc')
theorem own_grown {w w' : World} {b b' : Nat} {e e' : TypeId} {s s' n n' : Nat} {v v' : Value} {xs xs' : List Value} (h : w.ownsRow b e s v n xs) (h' : w.ownsRow b' e' s' v' n' xs') (hne : e ≠ e') (hg : w.grownBy w' v'.ownBlock) : w'.ownsRow b e s v n xs :=
  own_lv (S := fun g => v'.ownBlock = some g) h ((Lv.refl (fun g => v'.ownBlock = some g) w).grown hg (fun _ hk _ => hk)) (fun _ hg' => own_sep h h' hne hg')
theorem blk_grown {w w' : World} {b : Nat} {e : TypeId} {s n : Nat} {v : Value} {xs : List Value} {k : Nat} {o : Obj} (h : Blk w k o) (h' : w.ownsRow b e s v n xs) (hk : k < b) (hg : w.grownBy w' v.ownBlock) : Blk w' k o :=
  (hg.block k h.lt (fun e => by have := (own_blk h' e.symm).1; omega)).trans h

/-- SRows of strings, each in a block of its own. -/
structure SRows (W : World) (n1 : Nat) (vs : List Value) (ls : List Lns) : Prop where
  len : vs.length = ls.length
  own : ∀ (j : Nat) (v : Value) (l : Lns), vs[j]? = some v → ls[j]? = some l → W.ownsRow n1 9 1 v l.length (l.map Value.string)
  sep : ∀ (i j : Nat) (u v : Value) (g : Nat), vs[i]? = some u → vs[j]? = some v → i ≠ j → u.ownBlock = some g → v.ownBlock ≠ some g
section
variable {W W' : World} {n1 : Nat} {vs : List Value} {ls : List Lns}
theorem SRows.nil (W : World) (n1 : Nat) : SRows W n1 [] [] := ⟨rfl, by simp, by simp⟩
theorem SRows.get (h : SRows W n1 vs ls) {j : Nat} {v : Value} (hv : vs[j]? = some v) : ∃ l, ls[j]? = some l ∧ W.ownsRow n1 9 1 v l.length (l.map Value.string) := by
  have hj : j < ls.length := by rw [← h.len]; exact (List.getElem?_eq_some_iff.1 hv).1
  exact ⟨_, List.getElem?_eq_getElem hj, h.own j v _ hv (List.getElem?_eq_getElem hj)⟩
theorem SRows.lv {S : Nat → Prop} (h : SRows W n1 vs ls) (k : Lv S W W') (hS : ∀ v ∈ vs, ∀ g, v.ownBlock = some g → ¬ S g) : SRows W' n1 vs ls :=
  ⟨h.len, fun j v l h1 h2 => own_lv (h.own j v l h1 h2) k (fun g hg => hS v (mem_of_get h1) g hg), h.sep⟩
theorem SRows.ext (h : SRows W n1 vs ls) (e : Ext W W') : SRows W' n1 vs ls := h.lv (Lv.of_ext (S := fun _ => False) e) (fun _ _ _ _ h => h)
theorem SRows.grown {b s n : Nat} {e : TypeId} {v : Value} {xs : List Value} (h : SRows W n1 vs ls) (h' : W.ownsRow b e s v n xs) (he : (9 : TypeId) ≠ e) (hg : W.grownBy W' v.ownBlock) : SRows W' n1 vs ls :=
  ⟨h.len, fun j u l h1 h2 => own_grown (h.own j u l h1 h2) h' he hg, h.sep⟩
theorem SRows.low (h : SRows W n1 vs ls) {p : Addr} (hp : p.block < n1) (u : Value) : SRows (W.setCell p u) n1 vs ls :=
  h.lv (S := fun g => g = p.block) ((Lv.refl (fun g => g = p.block) W).setCell (p := p) (fun _ => rfl) u) (fun v hv g hg he => by
    obtain ⟨j, hj⟩ := List.getElem?_of_mem hv
    obtain ⟨l, _, ho⟩ := h.get hj
    have := (own_blk ho hg).1
    omega)
theorem SRows.push (h : SRows W n1 vs ls) : SRows W n1 (vs ++ [.slice none 0 0]) (ls ++ [[]]) := by
  refine ⟨by simp [h.len], fun j v l hv hl => ?_, fun i j u v g hu hv hij hg => ?_⟩
  · rcases Nat.lt_or_ge j vs.length with hj | hj
    · rw [List.getElem?_append_left hj] at hv
      rw [List.getElem?_append_left (by rw [← h.len]; exact hj)] at hl
      exact h.own j v l hv hl
    · have hjl : j = vs.length := by have := (List.getElem?_eq_some_iff.1 hv).1; simp at this; omega
      subst hjl
      rw [List.getElem?_concat_length] at hv
      rw [h.len, List.getElem?_concat_length] at hl
      cases hv; cases hl
      exact World.ownsRow_nil _ _ _ _
  · have nn : ∀ (k : Nat) (x : Value), (vs ++ [Value.slice none 0 0])[k]? = some x → (∃ g, x.ownBlock = some g) → vs[k]? = some x := fun k x hx ⟨g, hgx⟩ => by
      rcases Nat.lt_or_ge k vs.length with hk | hk
      · rwa [List.getElem?_append_left hk] at hx
      · have : k = vs.length := by have := (List.getElem?_eq_some_iff.1 hx).1; simp at this; omega
        subst this
        rw [List.getElem?_concat_length] at hx
        cases hx; cases hgx
    intro hg'
    exact h.sep i j u v g (nn i u hu ⟨g, hg⟩) (nn j v hv ⟨g, hg'⟩) hij hg hg'
/-- One row has grown. -/
theorem SRows.grow (h : SRows W n1 vs ls) {i : Nat} {v v' : Value} {l l' : Lns} (hv : vs[i]? = some v) (_hl : ls[i]? = some l) (hg : W.grownBy W' v.ownBlock) (hown : W'.ownsRow n1 9 1 v' l'.length (l'.map Value.string))
    (hb : v'.ownBlock = v.ownBlock ∨ ∃ g, v'.ownBlock = some g ∧ W.heap.size ≤ g) : SRows W' n1 (vs.set i v') (ls.set i l') := by
  have hi := (List.getElem?_eq_some_iff.1 hv).1
  have lt : ∀ (k : Nat) (x : Value) (g : Nat), vs[k]? = some x → x.ownBlock = some g → g < W.heap.size := fun k x g hx hgx => by
    obtain ⟨y, _, ho⟩ := h.get hx
    obtain ⟨_, c, hc⟩ := own_blk ho hgx
    exact hc.lt
  refine ⟨by simp [h.len], fun j u y hu hy => ?_, fun a b u y g hu hy hab hgu => ?_⟩
  · by_cases hij : i = j
    · subst hij
      rw [List.getElem?_set_self hi] at hu
      rw [List.getElem?_set_self (by rw [← h.len]; exact hi)] at hy
      cases hu; cases hy
      exact hown
    · rw [List.getElem?_set_ne hij] at hu hy
      refine own_lv (S := fun g => v.ownBlock = some g) (h.own j u y hu hy) ((Lv.refl (fun g => v.ownBlock = some g) W).grown hg (fun k hk _ => hk)) (fun g hgu hgv => ?_)
      exact h.sep j i u v g hu hv (fun e => hij e.symm) hgu hgv
  · intro hgy
    by_cases hia : i = a
    · subst hia
      rw [List.getElem?_set_self hi] at hu
      rw [List.getElem?_set_ne hab] at hy
      cases hu
      rcases hb with hb | ⟨g', hg', hle⟩
      · exact h.sep i b v y g hv hy hab (hb ▸ hgu) hgy
      · rw [hg'] at hgu; cases hgu
        have := lt b y _ hy hgy; omega
    · rw [List.getElem?_set_ne hia] at hu
      by_cases hib : i = b
      · subst hib
        rw [List.getElem?_set_self hi] at hy
        cases hy
        rcases hb with hb | ⟨g', hg', hle⟩
        · exact h.sep a i u v g hu hv hab hgu (hb ▸ hgy)
        · rw [hg'] at hgy; cases hgy
          have := lt a u _ hu hgu; omega
      · rw [List.getElem?_set_ne hib] at hy
        exact h.sep a b u y g hu hy hab hgu hgy
end

/-! ### The cells of a list of blocks -/
def bcs : List Bk → List Value → List Value
  | b :: r, v :: vs => [.int .i64 b.oa, .int .i64 b.ol, .int .i64 b.na, .int .i64 b.nl, v] ++ bcs r vs
  | _, _ => []
theorem bcs_len : ∀ (out : List Bk) (vs : List Value), vs.length = out.length → (bcs out vs).length = out.length * 5
  | [], vs, _ => by simp [bcs]
  | b :: r, [], h => by simp at h
  | b :: r, v :: vs, h => by
    have := bcs_len r vs (by simpa using h)
    simp only [bcs, List.length_append, List.length_cons, List.length_nil, this]; omega
theorem bcs_snoc (b : Bk) (v : Value) : ∀ (out : List Bk) (vs : List Value), vs.length = out.length → bcs (out ++ [b]) (vs ++ [v]) = bcs out vs ++ [.int .i64 b.oa, .int .i64 b.ol, .int .i64 b.na, .int .i64 b.nl, v]
  | [], vs, h => by
    obtain rfl : vs = [] := List.eq_nil_of_length_eq_zero h
    rfl
  | x :: r, [], h => by simp at h
  | x :: r, u :: vs, h => by
    have := bcs_snoc b v r vs (by simpa using h)
    simp only [List.cons_append, bcs, this, List.nil_append]
theorem bcs_last (b : Bk) (v : Value) (out : List Bk) (vs : List Value) (h : vs.length = out.length) : (bcs (out ++ [b]) (vs ++ [v]))[out.length * 5 + 4]? = some v := by
  rw [bcs_snoc b v out vs h, List.getElem?_append_right (by rw [bcs_len _ _ h]; omega), bcs_len _ _ h]
  rw [show out.length * 5 + 4 - out.length * 5 = 4 by omega]; rfl
theorem bcs_set (b b' : Bk) (v v' : Value) (out : List Bk) (vs : List Value) (h : vs.length = out.length) (hb : b'.oa = b.oa ∧ b'.ol = b.ol ∧ b'.na = b.na ∧ b'.nl = b.nl) : (bcs (out ++ [b]) (vs ++ [v])).set (out.length * 5 + 4) v' = bcs (out ++ [b']) (vs ++ [v']) := by
  rw [bcs_snoc b v out vs h, bcs_snoc b' v' out vs h, List.set_append_right _ _ (by rw [bcs_len _ _ h]; omega), bcs_len _ _ h]
  rw [show out.length * 5 + 4 - out.length * 5 = 4 by omega, hb.1, hb.2.1, hb.2.2.1, hb.2.2.2]; rfl
/-- What the rows hold, as a slice of blocks. -/
theorem bks_of {W : World} {n1 : Nat} {v : Value} {vs : List Value} {out : List Bk} (ho : W.ownsRow n1 80 5 v out.length (bcs out vs)) (hr : SRows W n1 vs (out.map fun b => b.ls.map lnS)) (hs : ∀ b ∈ out, b.ls.length ≤ Reach ∧ ∀ x ∈ b.ls, x.s.size + 1 ≤ Reach) :
    ∃ A c, v = .slice A out.length c ∧ out.length ≤ c ∧ c ≤ maxLen ∧ Bks W A out.length out := by
  have hl : vs.length = out.length := by rw [hr.len]; simp
  have parts : ∀ (out : List Bk) (vs : List Value), vs.length = out.length → (∀ (j : Nat) (v : Value) (b : Bk), vs[j]? = some v → out[j]? = some b → ∃ A c, v = .slice A b.ls.length c ∧ b.ls.length ≤ c ∧ Strs W A b.ls.length (b.ls.map lnS)) → (∀ b ∈ out, b.ls.length ≤ Reach) →
      ∃ ms : List BkM, ms.length = out.length ∧ ms.flatMap BkM.cells = bcs out vs ∧ ∀ (k : Nat) (m : BkM) (x : Bk), ms[k]? = some m → out[k]? = some x → BRel W m x := by
    intro out
    induction out with
    | nil => intro vs _ _ _; exact ⟨[], rfl, rfl, by simp⟩
    | cons b r ih =>
      intro vs hl h hR
      cases vs with
      | nil => simp at hl
      | cons v vs =>
        obtain ⟨ms, m1, m2, m3⟩ := ih vs (by simpa using hl) (fun j v b hv hb => h (j + 1) v b (by simpa using hv) (by simpa using hb)) (fun b hb => hR b (List.mem_cons_of_mem _ hb))
        obtain ⟨A, c, rfl, hc, hS⟩ := h 0 v b rfl rfl
        refine ⟨⟨b.oa, b.ol, b.na, b.nl, A, b.ls.length, c⟩ :: ms, by simp [m1], by rw [List.flatMap_cons, m2]; rfl, fun k m x hm hx => ?_⟩
        cases k with
        | zero => cases hm; cases hx; exact ⟨rfl, rfl, rfl, rfl, hc, hR b List.mem_cons_self, hS⟩
        | succ k => exact m3 k m x (by simpa using hm) (by simpa using hx)
  obtain ⟨ms, m1, m2, m3⟩ := parts out vs hl (fun j v b hv hb => by
    have ho := hr.own j v (b.ls.map lnS) hv (by rw [List.getElem?_map, hb]; rfl)
    rw [List.length_map] at ho
    obtain ⟨A, c, h1, h2, h3⟩ := own_strs ho (fun s hsm => by
      obtain ⟨x, hx, rfl⟩ := List.mem_map.1 hsm
      rw [lnS_size]
      exact (hs b (mem_of_get hb)).2 x hx)
    exact ⟨A, c, h1, h2, h3⟩) (fun b hb => (hs b hb).1)
  have hc := fun g hg => ho.cells (g := g) hg
  rcases ho.2 with ⟨rfl, h0⟩ | ⟨g, cap, cur, rfl, hb, hgg, hnc, hcm, _⟩
  · obtain rfl : out = [] := List.eq_nil_of_length_eq_zero h0
    exact ⟨none, 0, rfl, Nat.le_refl _, by decide, Bks.nil _ _⟩
  · exact ⟨_, _, rfl, hnc, hcm, ms, m1, rfl, by rw [m2]; exact Cells.of_add _ (hc g rfl), m3⟩
end Go.Proofs.YtmmcjcaccicheaaGreatDoor
/- The memory of Parse between two lines. No condition. -/
namespace Go.Proofs.YtmmcjcaccicheaaGreatDoor
open Go.RowKit

/-- Parse's variables: three results from block B on, out, headers, before, after, last, and the text that the iterator turns. -/
structure PMem (B : Nat) (vO vO2 vH vH2 : Value) (va vr : List Value) (out : List Bk) (ls : List Lns) (nh : Nat) (hs : List Value) (bef aft : Int) (W : World) : Prop where
  r0 : Blk W B (.cells #[.slice none 0 0] 44)
  r1 : Blk W (B + 1) (.cells #[.int .i64 0] 3)
  r2 : Blk W (B + 2) (.cells #[.int .i64 0] 23)
  o : Blk W (B + 3) (.cells #[vO] 44)
  h : Blk W (B + 4) (.cells #[vH] 49)
  bf : Blk W (B + 5) (.cells #[.int .i64 bef] 3)
  af : Blk W (B + 6) (.cells #[.int .i64 aft] 3)
  la : ∃ x : Int, Blk W (B + 7) (.cells #[.int .i64 x] 3)
  ownO : W.ownsRow (B + 9) 80 5 vO2 out.length (bcs out va)
  ownH : W.ownsRow (B + 9) 3 1 vH2 nh hs
  rows : SRows W (B + 9) vr ls
  lva : va.length = out.length
/-- What a round may write. -/
def PS (B : Nat) (vO vH : Value) (vs : List Value) : Nat → Prop := fun g => (B + 3 ≤ g ∧ g ≤ B + 7) ∨ vO.ownBlock = some g ∨ vH.ownBlock = some g ∨ ∃ v ∈ vs, v.ownBlock = some g
section
variable {B : Nat} {vO vO2 vH vH2 : Value} {va vr : List Value} {out : List Bk} {ls : List Lns} {nh : Nat} {hs : List Value} {bef aft : Int} {W W' : World}
theorem SRows.mem (h : SRows W (B + 9) vr ls) {v : Value} (hv : v ∈ vr) {g : Nat} (hg : v.ownBlock = some g) : B + 9 ≤ g ∧ ∃ cs, Blk W g (.cells cs 9 (0, 0)) := by
  obtain ⟨j, hj⟩ := List.getElem?_of_mem hv
  obtain ⟨l, _, ho⟩ := h.get hj
  exact own_blk ho hg
theorem PMem.lv {S : Nat → Prop} (h : PMem B vO vO2 vH vH2 va vr out ls nh hs bef aft W) (k : Lv S W W') (hlow : ∀ g, g ≤ B + 7 → ¬ S g) (hown : ∀ g, (vO2.ownBlock = some g ∨ vH2.ownBlock = some g ∨ ∃ v ∈ vr, v.ownBlock = some g) → ¬ S g) :
    PMem B vO vO2 vH vH2 va vr out ls nh hs bef aft W' where
  r0 := h.r0.lv k (hlow _ (by omega))
  r1 := h.r1.lv k (hlow _ (by omega))
  r2 := h.r2.lv k (hlow _ (by omega))
  o := h.o.lv k (hlow _ (by omega))
  h := h.h.lv k (hlow _ (by omega))
  bf := h.bf.lv k (hlow _ (by omega))
  af := h.af.lv k (hlow _ (by omega))
  la := let ⟨x, hx⟩ := h.la; ⟨x, hx.lv k (hlow _ (by omega))⟩
  ownO := own_lv h.ownO k (fun g hg => hown g (.inl hg))
  ownH := own_lv h.ownH k (fun g hg => hown g (.inr (.inl hg)))
  rows := h.rows.lv k (fun v hv g hg => hown g (.inr (.inr ⟨v, hv, hg⟩)))
  lva := h.lva
theorem PMem.ext (h : PMem B vO vO2 vH vH2 va vr out ls nh hs bef aft W) (e : Ext W W') : PMem B vO vO2 vH vH2 va vr out ls nh hs bef aft W' := h.lv (Lv.of_ext (S := fun _ => False) e) (fun _ _ h => h) (fun _ _ h => h)
/-- The iterator's own steps. -/
theorem PMem.firm (h : PMem B vO vO2 vH vH2 va vr out ls nh hs bef aft W) (k : Lv (fun g => g = B + 8 ∨ (B + 9 ≤ g ∧ NC W g)) W W') : PMem B vO vO2 vH vH2 va vr out ls nh hs bef aft W' := by
  refine h.lv k (fun g hg hs => by omega) (fun g hg hs => ?_)
  have key : B + 9 ≤ g ∧ ¬ NC W g := by
    rcases hg with hg | hg | ⟨v, hv, hg⟩
    · obtain ⟨h1, c, hc⟩ := own_blk h.ownO hg; exact ⟨h1, hc.nc⟩
    · obtain ⟨h1, c, hc⟩ := own_blk h.ownH hg; exact ⟨h1, hc.nc⟩
    · obtain ⟨h1, c, hc⟩ := h.rows.mem hv hg; exact ⟨h1, hc.nc⟩
  rcases hs with hs | hs
  · omega
  · exact key.2 hs.2
theorem PMem.low (h : PMem B vO vO2 vH vH2 va vr out ls nh hs bef aft W) : B + 8 ≤ W.heap.size := by obtain ⟨x, hx⟩ := h.la; exact hx.lt
/-- A block more. -/
theorem PMem.addO {vO3 : Value} {b : Bk} (h : PMem B vO vO2 vH vH2 va vr out ls nh hs bef aft W) (hg : W.grownBy W' vO2.ownBlock) (ho : W'.ownsRow (B + 9) 80 5 vO3 (out.length + 1) (bcs out va ++ [.int .i64 b.oa, .int .i64 b.ol, .int .i64 b.na, .int .i64 b.nl, .slice none 0 0])) :
    PMem B vO vO3 vH vH2 (va ++ [.slice none 0 0]) (vr ++ [.slice none 0 0]) (out ++ [b]) (ls ++ [[]]) nh hs bef aft W' where
  r0 := blk_grown h.r0 h.ownO (by omega) hg
  r1 := blk_grown h.r1 h.ownO (by omega) hg
  r2 := blk_grown h.r2 h.ownO (by omega) hg
  o := blk_grown h.o h.ownO (by omega) hg
  h := blk_grown h.h h.ownO (by omega) hg
  bf := blk_grown h.bf h.ownO (by omega) hg
  af := blk_grown h.af h.ownO (by omega) hg
  la := let ⟨x, hx⟩ := h.la; ⟨x, blk_grown hx h.ownO (by omega) hg⟩
  ownO := by rw [bcs_snoc b _ out va h.lva, List.length_append]; exact ho
  ownH := own_grown h.ownH h.ownO (by decide) hg
  rows := (h.rows.grown h.ownO (by decide) hg).push
  lva := by simp [h.lva]
theorem PMem.addH {vH3 : Value} {x : Value} (h : PMem B vO vO2 vH vH2 va vr out ls nh hs bef aft W) (hg : W.grownBy W' vH2.ownBlock) (ho : W'.ownsRow (B + 9) 3 1 vH3 (nh + 1) (hs ++ [x])) :
    PMem B vO vO2 vH vH3 va vr out ls (nh + 1) (hs ++ [x]) bef aft W' where
  r0 := blk_grown h.r0 h.ownH (by omega) hg
  r1 := blk_grown h.r1 h.ownH (by omega) hg
  r2 := blk_grown h.r2 h.ownH (by omega) hg
  o := blk_grown h.o h.ownH (by omega) hg
  h := blk_grown h.h h.ownH (by omega) hg
  bf := blk_grown h.bf h.ownH (by omega) hg
  af := blk_grown h.af h.ownH (by omega) hg
  la := let ⟨x, hx⟩ := h.la; ⟨x, blk_grown hx h.ownH (by omega) hg⟩
  ownO := own_grown h.ownO h.ownH (by decide) hg
  ownH := ho
  rows := h.rows.grown h.ownH (by decide) hg
  lva := h.lva
/-- A line more in the last block's row; the block doesn't know yet. -/
theorem PMem.addL {v v' : Value} {us : List Value} {ks : List Lns} {l l' : Lns} (h : PMem B vO vO2 vH vH2 va (us ++ [v]) out (ks ++ [l]) nh hs bef aft W) (hg : W.grownBy W' v.ownBlock) (ho : W'.ownsRow (B + 9) 9 1 v' l'.length (l'.map Value.string)) (hb : v'.ownBlock = v.ownBlock ∨ ∃ g, v'.ownBlock = some g ∧ W.heap.size ≤ g) :
    PMem B vO vO2 vH vH2 va (us ++ [v']) out (ks ++ [l']) nh hs bef aft W' := by
  have hlen : us.length = ks.length := by have := h.rows.len; simpa using this
  have e1 : (us ++ [v])[us.length]? = some v := List.getElem?_concat_length
  have e2 : (ks ++ [l])[us.length]? = some l := by rw [hlen]; exact List.getElem?_concat_length
  have hv := h.rows.own us.length v l e1 e2
  have hr := h.rows.grow e1 e2 hg ho hb
  have s1 : (us ++ [v]).set us.length v' = us ++ [v'] := by rw [List.set_append_right _ _ (Nat.le_refl _)]; simp
  have s2 : (ks ++ [l]).set us.length l' = ks ++ [l'] := by rw [hlen, List.set_append_right _ _ (Nat.le_refl _)]; simp
  rw [s1, s2] at hr
  exact ⟨blk_grown h.r0 hv (by omega) hg, blk_grown h.r1 hv (by omega) hg, blk_grown h.r2 hv (by omega) hg, blk_grown h.o hv (by omega) hg, blk_grown h.h hv (by omega) hg, blk_grown h.bf hv (by omega) hg, blk_grown h.af hv (by omega) hg,
    let ⟨x, hx⟩ := h.la; ⟨x, blk_grown hx hv (by omega) hg⟩, own_grown h.ownO hv (by decide) hg, own_grown h.ownH hv (by decide) hg, hr, h.lva⟩
/-- The last block learns of its row. -/
theorem PMem.setL {g cap : Nat} {v v' : Value} {us : List Value} {b b' : Bk} {os : List Bk} (h : PMem B vO (.slice (some ⟨g, 0, none⟩) (os.length + 1) cap) vH vH2 (us ++ [v]) vr (os ++ [b]) ls nh hs bef aft W) (hb : b'.oa = b.oa ∧ b'.ol = b.ol ∧ b'.na = b.na ∧ b'.nl = b.nl) :
    PMem B vO (.slice (some ⟨g, 0, none⟩) (os.length + 1) cap) vH vH2 (us ++ [v']) vr (os ++ [b']) ls nh hs bef aft (W.setCell ⟨g, os.length * 5 + 4, none⟩ v') := by
  have hlv : us.length = os.length := by have := h.lva; simpa using this
  have hgb : B + 9 ≤ g := (own_blk h.ownO (g := g) rfl).1
  have hty := (own_blk h.ownO (g := g) rfl).2
  have k := (Lv.refl (fun x => x = g) W).setCell (p := ⟨g, os.length * 5 + 4, none⟩) (fun _ => rfl) v'
  have hlen : (os ++ [b]).length = os.length + 1 := by simp
  have hlen' : (os ++ [b']).length = os.length + 1 := by simp
  have ho := h.ownO
  rw [hlen] at ho
  have hst := (ho.stored (os.length * 5 + 4) v').1
  rw [bcs_set b b' v v' os us hlv hb] at hst
  refine ⟨h.r0.lv k (by omega), h.r1.lv k (by omega), h.r2.lv k (by omega), h.o.lv k (by omega), h.h.lv k (by omega), h.bf.lv k (by omega), h.af.lv k (by omega), let ⟨x, hx⟩ := h.la; ⟨x, hx.lv k (by omega)⟩, by rw [hlen']; exact hst,
    own_lv h.ownH k (fun x hx e => by subst e; exact own_sep h.ownO h.ownH (by decide) (g := x) rfl hx), h.rows.lv k (fun u hu x hx e => ?_), by simp [hlv]⟩
  subst e
  obtain ⟨cs, hc⟩ := hty
  obtain ⟨_, cs', hc'⟩ := h.rows.mem hu hx
  exact absurd (blk_type hc hc') (by decide)
theorem PMem.setO (h : PMem B vO vO2 vH vH2 va vr out ls nh hs bef aft W) (u : Value) : PMem B u vO2 vH vH2 va vr out ls nh hs bef aft (W.setCell ⟨B + 3, 0, none⟩ u) := by
  have k := (Lv.refl (fun x => x = B + 3) W).setCell (p := ⟨B + 3, 0, none⟩) (fun _ => rfl) u
  exact ⟨h.r0.lv k (by omega), h.r1.lv k (by omega), h.r2.lv k (by omega), h.o.put 0 u, h.h.lv k (by omega), h.bf.lv k (by omega), h.af.lv k (by omega), let ⟨x, hx⟩ := h.la; ⟨x, hx.lv k (by omega)⟩,
    own_lv h.ownO k (fun x hx e => by have := (own_blk h.ownO hx).1; omega), own_lv h.ownH k (fun x hx e => by have := (own_blk h.ownH hx).1; omega), h.rows.lv k (fun v hv x hx e => by have := (h.rows.mem hv hx).1; omega), h.lva⟩
theorem PMem.setH (h : PMem B vO vO2 vH vH2 va vr out ls nh hs bef aft W) (u : Value) : PMem B vO vO2 u vH2 va vr out ls nh hs bef aft (W.setCell ⟨B + 4, 0, none⟩ u) := by
  have k := (Lv.refl (fun x => x = B + 4) W).setCell (p := ⟨B + 4, 0, none⟩) (fun _ => rfl) u
  exact ⟨h.r0.lv k (by omega), h.r1.lv k (by omega), h.r2.lv k (by omega), h.o.lv k (by omega), h.h.put 0 u, h.bf.lv k (by omega), h.af.lv k (by omega), let ⟨x, hx⟩ := h.la; ⟨x, hx.lv k (by omega)⟩,
    own_lv h.ownO k (fun x hx e => by have := (own_blk h.ownO hx).1; omega), own_lv h.ownH k (fun x hx e => by have := (own_blk h.ownH hx).1; omega), h.rows.lv k (fun v hv x hx e => by have := (h.rows.mem hv hx).1; omega), h.lva⟩
theorem PMem.setB (h : PMem B vO vO2 vH vH2 va vr out ls nh hs bef aft W) (u : Int) : PMem B vO vO2 vH vH2 va vr out ls nh hs u aft (W.setCell ⟨B + 5, 0, none⟩ (.int .i64 u)) := by
  have k := (Lv.refl (fun x => x = B + 5) W).setCell (p := ⟨B + 5, 0, none⟩) (fun _ => rfl) (.int .i64 u)
  exact ⟨h.r0.lv k (by omega), h.r1.lv k (by omega), h.r2.lv k (by omega), h.o.lv k (by omega), h.h.lv k (by omega), h.bf.put 0 _, h.af.lv k (by omega), let ⟨x, hx⟩ := h.la; ⟨x, hx.lv k (by omega)⟩,
    own_lv h.ownO k (fun x hx e => by have := (own_blk h.ownO hx).1; omega), own_lv h.ownH k (fun x hx e => by have := (own_blk h.ownH hx).1; omega), h.rows.lv k (fun v hv x hx e => by have := (h.rows.mem hv hx).1; omega), h.lva⟩
theorem PMem.setA (h : PMem B vO vO2 vH vH2 va vr out ls nh hs bef aft W) (u : Int) : PMem B vO vO2 vH vH2 va vr out ls nh hs bef u (W.setCell ⟨B + 6, 0, none⟩ (.int .i64 u)) := by
  have k := (Lv.refl (fun x => x = B + 6) W).setCell (p := ⟨B + 6, 0, none⟩) (fun _ => rfl) (.int .i64 u)
  exact ⟨h.r0.lv k (by omega), h.r1.lv k (by omega), h.r2.lv k (by omega), h.o.lv k (by omega), h.h.lv k (by omega), h.bf.lv k (by omega), h.af.put 0 _, let ⟨x, hx⟩ := h.la; ⟨x, hx.lv k (by omega)⟩,
    own_lv h.ownO k (fun x hx e => by have := (own_blk h.ownO hx).1; omega), own_lv h.ownH k (fun x hx e => by have := (own_blk h.ownH hx).1; omega), h.rows.lv k (fun v hv x hx e => by have := (h.rows.mem hv hx).1; omega), h.lva⟩
theorem PMem.setN (h : PMem B vO vO2 vH vH2 va vr out ls nh hs bef aft W) (u : Int) : PMem B vO vO2 vH vH2 va vr out ls nh hs bef aft (W.setCell ⟨B + 7, 0, none⟩ (.int .i64 u)) := by
  have k := (Lv.refl (fun x => x = B + 7) W).setCell (p := ⟨B + 7, 0, none⟩) (fun _ => rfl) (.int .i64 u)
  exact ⟨h.r0.lv k (by omega), h.r1.lv k (by omega), h.r2.lv k (by omega), h.o.lv k (by omega), h.h.lv k (by omega), h.bf.lv k (by omega), h.af.lv k (by omega), let ⟨_, hx⟩ := h.la; ⟨u, hx.put 0 _⟩,
    own_lv h.ownO k (fun x hx e => by have := (own_blk h.ownO hx).1; omega), own_lv h.ownH k (fun x hx e => by have := (own_blk h.ownH hx).1; omega), h.rows.lv k (fun v hv x hx e => by have := (h.rows.mem hv hx).1; omega), h.lva⟩
theorem PMem.size (h : PMem B vO vO2 vH vH2 va vr out ls nh hs bef aft W) : ∀ g, PS B vO2 vH2 vr g → g < W.heap.size := by
  intro g hg
  have := h.low
  rcases hg with hg | hg | hg | ⟨v, hv, hg⟩
  · omega
  · obtain ⟨_, c, hc⟩ := own_blk h.ownO hg; exact hc.lt
  · obtain ⟨_, c, hc⟩ := own_blk h.ownH hg; exact hc.lt
  · obtain ⟨_, c, hc⟩ := h.rows.mem hv hg; exact hc.lt
theorem PMem.above (h : PMem B vO vO2 vH vH2 va vr out ls nh hs bef aft W) : ∀ g, PS B vO2 vH2 vr g → B + 3 ≤ g := by
  intro g hg
  rcases hg with hg | hg | hg | ⟨v, hv, hg⟩
  · omega
  · have := (own_blk h.ownO hg).1; omega
  · have := (own_blk h.ownH hg).1; omega
  · have := (h.rows.mem hv hg).1; omega
end
end Go.Proofs.YtmmcjcaccicheaaGreatDoor
/- A list of hunks whose lines are growing rows, in memory. No condition. -/
namespace Go.Proofs.YtmmcjcaccicheaaGreatDoor
open Go.RowKit

def hcs : List Hp → List Value → List Value
  | h :: r, u :: v :: vs => [.int .i64 h.at_, u, v] ++ hcs r vs
  | _, _ => []
def hls (out : List Hp) : List Lns := out.flatMap fun h => [h.old, h.new]
theorem hls_len (out : List Hp) : (hls out).length = 2 * out.length := by
  induction out with
  | nil => rfl
  | cons h r ih => simp only [hls, List.flatMap_cons, List.length_append, List.length_cons, List.length_nil] at ih ⊢; omega
theorem hcs_len : ∀ (out : List Hp) (vs : List Value), vs.length = 2 * out.length → (hcs out vs).length = out.length * 3
  | [], _, _ => by simp [hcs]
  | h :: r, [], e => by simp at e
  | h :: r, [u], e => by simp at e; omega
  | h :: r, u :: v :: vs, e => by
    have := hcs_len r vs (by simp at e; omega)
    simp only [hcs, List.length_append, List.length_cons, List.length_nil, this]; omega
theorem hcs_snoc (x : Hp) (u v : Value) : ∀ (out : List Hp) (vs : List Value), vs.length = 2 * out.length → hcs (out ++ [x]) (vs ++ [u, v]) = hcs out vs ++ [.int .i64 x.at_, u, v]
  | [], vs, e => by
    obtain rfl : vs = [] := List.eq_nil_of_length_eq_zero (by simpa using e)
    rfl
  | h :: r, [], e => by simp at e
  | h :: r, [u'], e => by simp at e; omega
  | h :: r, a :: b :: vs, e => by
    have := hcs_snoc x u v r vs (by simp at e; omega)
    simp only [List.cons_append, hcs, this, List.nil_append]
theorem hcs_get : ∀ (out : List Hp) (vs : List Value) (m f : Nat), vs.length = 2 * out.length → m < out.length → f < 2 → (hcs out vs)[m * 3 + 1 + f]? = vs[2 * m + f]?
  | [], _, m, _, _, h, _ => by simp at h
  | h :: r, [], _, _, e, _, _ => by simp at e
  | h :: r, [u], _, _, e, _, _ => by simp at e; omega
  | h :: r, u :: v :: vs, 0, f, _, _, hf => by
    have : f = 0 ∨ f = 1 := by omega
    rcases this with rfl | rfl <;> rfl
  | h :: r, u :: v :: vs, m + 1, f, e, hm, hf => by
    have ih := hcs_get r vs m f (by simp at e; omega) (by simpa using hm) hf
    rw [show (m + 1) * 3 + 1 + f = (m * 3 + 1 + f) + 3 by omega, show 2 * (m + 1) + f = (2 * m + f) + 2 by omega]
    simp only [hcs, List.cons_append, List.nil_append, List.getElem?_cons_succ]
    exact ih
theorem hcs_set (x : Value) : ∀ (out : List Hp) (vs : List Value) (m f : Nat), vs.length = 2 * out.length → m < out.length → f < 2 → (hcs out vs).set (m * 3 + 1 + f) x = hcs out (vs.set (2 * m + f) x)
  | [], _, m, _, _, h, _ => by simp at h
  | h :: r, [], _, _, e, _, _ => by simp at e
  | h :: r, [u], _, _, e, _, _ => by simp at e; omega
  | h :: r, u :: v :: vs, 0, f, _, _, hf => by
    have : f = 0 ∨ f = 1 := by omega
    rcases this with rfl | rfl <;> rfl
  | h :: r, u :: v :: vs, m + 1, f, e, hm, hf => by
    have ih := hcs_set x r vs m f (by simp at e; omega) (by simpa using hm) hf
    rw [show (m + 1) * 3 + 1 + f = (m * 3 + 1 + f) + 3 by omega, show 2 * (m + 1) + f = (2 * m + f) + 2 by omega]
    simp only [hcs, List.cons_append, List.nil_append, List.set_cons_succ]
    rw [ih]
/-- The numbers are all that the cells tell of the hunks. -/
theorem hcs_same : ∀ (a b : List Hp) (vs : List Value), a.map (·.at_) = b.map (·.at_) → hcs a vs = hcs b vs
  | [], [], _, _ => rfl
  | [], _ :: _, _, e => by simp at e
  | _ :: _, [], _, e => by simp at e
  | x :: a, y :: b, [], _ => rfl
  | x :: a, y :: b, [u], _ => rfl
  | x :: a, y :: b, u :: v :: vs, e => by
    simp only [List.map_cons, List.cons.injEq] at e
    simp only [hcs, e.1, hcs_same a b vs e.2]

structure HMem (base : Nat) (v : Value) (va vr : List Value) (out : List Hp) (ls : List Lns) (W : World) : Prop where
  own : W.ownsRow base 69 3 v out.length (hcs out va)
  rows : SRows W base vr ls
  lva : va.length = 2 * out.length
section
variable {base : Nat} {v : Value} {va vr : List Value} {out : List Hp} {ls : List Lns} {W W' : World}
theorem HMem.nil (base : Nat) (W : World) : HMem base (.slice none 0 0) [] [] [] [] W := ⟨World.ownsRow_nil _ _ _ _, SRows.nil _ _, rfl⟩
theorem HMem.ext (h : HMem base v va vr out ls W) (e : Ext W W') : HMem base v va vr out ls W' := ⟨own_stab3 e h.own, h.rows.ext e, h.lva⟩
theorem HMem.push {v' : Value} {a : Nat} (h : HMem base v va vr out ls W) (hg : W.grownBy W' v.ownBlock) (ho : W'.ownsRow base 69 3 v' (out.length + 1) (hcs out va ++ [.int .i64 a, .slice none 0 0, .slice none 0 0])) :
    HMem base v' (va ++ [.slice none 0 0, .slice none 0 0]) (vr ++ [.slice none 0 0, .slice none 0 0]) (out ++ [⟨a, [], []⟩]) (ls ++ [[], []]) W' := by
  refine ⟨by rw [hcs_snoc ⟨a, [], []⟩ _ _ out va h.lva, List.length_append]; exact ho, ?_, by simp [h.lva]; omega⟩
  have := (h.rows.grown h.own (by decide) hg).push.push
  simpa using this
/-- Row i of the lines grows; the hunk doesn't know yet. -/
theorem HMem.addL {i : Nat} {u u' : Value} {l l' : Lns} (h : HMem base v va vr out ls W) (hu : vr[i]? = some u) (hl : ls[i]? = some l) (hg : W.grownBy W' u.ownBlock) (ho : W'.ownsRow base 9 1 u' l'.length (l'.map Value.string)) (hb : u'.ownBlock = u.ownBlock ∨ ∃ g, u'.ownBlock = some g ∧ W.heap.size ≤ g) :
    HMem base v va (vr.set i u') out (ls.set i l') W' :=
  ⟨own_grown h.own (h.rows.own i u l hu hl) (by decide) hg, h.rows.grow hu hl hg ho hb, h.lva⟩
/-- The hunk learns of its row. -/
theorem HMem.setL {g n cap m f : Nat} {u' : Value} (h : HMem base (.slice (some ⟨g, 0, none⟩) n cap) va vr out ls W) (hn : out.length = n) (hm : m < n) (hf : f < 2) :
    HMem base (.slice (some ⟨g, 0, none⟩) n cap) (va.set (2 * m + f) u') vr out ls (W.setCell ⟨g, m * 3 + 1 + f, none⟩ u') := by
  subst hn
  have k := (Lv.refl (fun x => x = g) W).setCell (p := ⟨g, m * 3 + 1 + f, none⟩) (fun _ => rfl) u'
  have hst := (h.own.stored (m * 3 + 1 + f) u').1
  rw [hcs_set u' out va m f h.lva hm hf] at hst
  obtain ⟨_, cs, hc⟩ := own_blk h.own (g := g) rfl
  refine ⟨hst, h.rows.lv k (fun w hw x hx e => ?_), by simp [h.lva]⟩
  subst e
  obtain ⟨j, hj⟩ := List.getElem?_of_mem hw
  obtain ⟨l, _, ho⟩ := h.rows.get hj
  obtain ⟨_, cs', hc'⟩ := own_blk ho hx
  exact absurd (blk_type hc hc') (by decide)
theorem HMem.cell {g n cap m f : Nat} {u : Value} (h : HMem base (.slice (some ⟨g, 0, none⟩) n cap) va vr out ls W) (hn : out.length = n) (hm : m < n) (hf : f < 2) (hu : va[2 * m + f]? = some u) : W.cell? ⟨g, m * 3 + 1 + f, none⟩ = some u ∧ W.frozen? ⟨g, m * 3 + 1 + f, none⟩ = false := by
  subst hn
  refine ⟨?_, h.own.frozenAt _⟩
  rw [h.own.cellAt _ (by omega), hcs_get out va m f h.lva hm hf]
  exact hu
theorem HMem.grow_ext {w : World} (h : HMem w.heap.size v va vr out ls W) (e : Ext w W) (hg : W.grownBy W' v.ownBlock) : Ext w W' := e.own3 h.own hg
theorem HMem.row_ext {w : World} {i : Nat} {u : Value} {l : Lns} (h : HMem w.heap.size v va vr out ls W) (e : Ext w W) (hu : vr[i]? = some u) (hl : ls[i]? = some l) (hg : W.grownBy W' u.ownBlock) : Ext w W' := e.own3 (h.rows.own i u l hu hl) hg
/-- What the rows hold, as a slice of hunks. -/
theorem HMem.hps (h : HMem base v va va out (hls out) W) (hs : ∀ x ∈ out, (x.old.length ≤ Reach ∧ ∀ s ∈ x.old, s.size ≤ Reach) ∧ (x.new.length ≤ Reach ∧ ∀ s ∈ x.new, s.size ≤ Reach)) : ∃ A c, v = .slice A out.length c ∧ out.length ≤ c ∧ c ≤ maxLen ∧ Hps W A out.length out := by
  have parts : ∀ (out : List Hp) (va : List Value), va.length = 2 * out.length → (∀ (j : Nat) (v : Value) (l : Lns), va[j]? = some v → (hls out)[j]? = some l → ∃ A c, v = .slice A l.length c ∧ l.length ≤ c ∧ Strs W A l.length l) → (∀ x ∈ out, x.old.length ≤ Reach ∧ x.new.length ≤ Reach) →
      ∃ ms : List Hk, ms.length = out.length ∧ (∀ m ∈ ms, m.small) ∧ ms.flatMap Hk.cells = hcs out va ∧ ∀ (k : Nat) (m : Hk) (x : Hp), ms[k]? = some m → out[k]? = some x → HRel W m x := by
    intro out
    induction out with
    | nil => intro va _ _ _; exact ⟨[], rfl, by simp, rfl, by simp⟩
    | cons b r ih =>
      intro va hl h hR
      match va, hl with
      | [], hl => simp at hl
      | [u], hl => simp at hl; omega
      | u :: v :: vs, hl =>
        obtain ⟨ms, m1, m0, m2, m3⟩ := ih vs (by simp at hl; omega) (fun j x l hx hl => h (j + 2) x l (by simpa using hx) (by simpa [hls] using hl)) (fun b hb => hR b (List.mem_cons_of_mem _ hb))
        obtain ⟨A, c, rfl, hc, hS⟩ := h 0 u b.old rfl rfl
        obtain ⟨A', c', rfl, hc', hS'⟩ := h 1 v b.new rfl rfl
        have hr := hR b List.mem_cons_self
        refine ⟨⟨b.at_, A, b.old.length, c, A', b.new.length, c'⟩ :: ms, by simp [m1], ?_, by rw [List.flatMap_cons, m2]; rfl, fun k m x hm hx => ?_⟩
        · intro m hm
          rcases List.mem_cons.1 hm with rfl | hm
          · exact hr
          · exact m0 m hm
        · cases k with
          | zero => cases hm; cases hx; exact ⟨rfl, hc, hc', hS, hS', hr.1, hr.2⟩
          | succ k => exact m3 k m x (by simpa using hm) (by simpa using hx)
  have hmem : ∀ (j : Nat) (l : Lns), (hls out)[j]? = some l → l.length ≤ Reach ∧ ∀ s ∈ l, s.size ≤ Reach := fun j l hl => by
    obtain ⟨x, hx, hm⟩ := List.mem_flatMap.1 (mem_of_get hl)
    simp only [List.mem_cons, List.not_mem_nil, or_false] at hm
    rcases hm with rfl | rfl
    · exact (hs x hx).1
    · exact (hs x hx).2
  obtain ⟨ms, m1, m0, m2, m3⟩ := parts out va h.lva (fun j u l hu hl => by
    have ho := h.rows.own j u l hu hl
    obtain ⟨A, c, h1, h2, h3⟩ := own_strs ho (hmem j l hl).2
    exact ⟨A, c, h1, h2, h3⟩) (fun x hx => ⟨(hs x hx).1.1, (hs x hx).2.1⟩)
  have ho := h.own
  have hc := fun g hg => ho.cells (g := g) hg
  rcases ho.2 with ⟨rfl, h0⟩ | ⟨g, cap, cur, rfl, hb, hgg, hnc, hcm, _⟩
  · obtain rfl : out = [] := List.eq_nil_of_length_eq_zero h0
    exact ⟨none, 0, rfl, Nat.le_refl _, by decide, Hps.nil _ _⟩
  · exact ⟨_, _, rfl, hnc, hcm, ms, ⟨m1, m0, by rw [m2]; exact Cells.of_add _ (hc g rfl)⟩, rfl, m3⟩
end
end Go.Proofs.YtmmcjcaccicheaaGreatDoor

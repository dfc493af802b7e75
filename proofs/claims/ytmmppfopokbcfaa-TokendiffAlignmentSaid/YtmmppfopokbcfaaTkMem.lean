/- Pieces in memory; contracts: joins of both, and the closure that adds a piece. -/
import Derived.Test.YtmmppfopokbcfaaTkWordsW
import Derived.Test.YtmmppfopokbcfaaTkPieces
import Derived.Test.YtmmppfopokbcfaaTkShelf
import Derived.Test.YtmmppfopokbcfaaMatch
import Derived.Test.YtmmppfopokbcfaaIter
namespace Go.Proofs.Ytmmppfopokbcfaa
open Go.RowKit

def Pc.cells (p : Pc) : List Value := [.int .i64 p.k, .string p.t]
abbrev Pc.obj (p : Pc) : Obj := .cells #[.int .i64 p.k, .string p.t] 30
def Pc.wf (p : Pc) : Prop := I64 p.k ∧ p.t.size ≤ Reach
theorem pc_cells_len (p : Pc) : p.cells.length = 2 := rfl
theorem one_pc (ps : List Pc) : ∀ u ∈ ps.flatMap Pc.cells, u.oneCell' = true := by
  intro u hu
  obtain ⟨p, _, hp⟩ := List.mem_flatMap.1 hu
  simp only [Pc.cells, List.mem_cons, List.not_mem_nil, or_false] at hp
  rcases hp with rfl | rfl <;> rfl
/-- From address A on lie the n pieces l. -/
def Pcs (w : World) (A : Option Addr) (n : Nat) (l : List Pc) : Prop := l.length = n ∧ (∀ p ∈ l, p.wf) ∧ Cells w A (l.flatMap Pc.cells)
section
variable {w w' : World} {A : Option Addr} {n : Nat} {l : List Pc}
theorem Pcs.ext (h : Pcs w A n l) (e : Ext w w') : Pcs w' A n l := ⟨h.1, h.2.1, h.2.2.ext e⟩
theorem Pcs.nil (w : World) (A : Option Addr) : Pcs w A 0 [] := ⟨rfl, by simp, Cells.nil _ _⟩
theorem Pcs.get (h : Pcs w A n l) {j : Nat} (hj : j < n) : ∃ b off p, A = some ⟨b, off, none⟩ ∧ b < w.heap.size ∧ l[j]? = some p ∧ p.wf ∧ w.cell? ⟨b, off + j * 2, none⟩ = some (.int .i64 p.k) ∧ w.cell? ⟨b, off + j * 2 + 1, none⟩ = some (.string p.t) := by
  have hl : j < l.length := by rw [h.1]; exact hj
  have hlf := flat_len pc_cells_len l
  obtain ⟨b, off, h1, h2, h3⟩ := h.2.2.get (k := j * 2) (by rw [hlf]; omega)
  have hx : l[j]? = some l[j] := List.getElem?_eq_getElem hl
  have g := fun i hi => flat_get pc_cells_len l j i _ hx hi
  refine ⟨b, off, l[j], h1, h2, hx, h.2.1 _ (List.getElem_mem hl), ?_, ?_⟩
  · have := h3 (j * 2 + 0) (.int .i64 l[j].k) (by rw [g 0 (by omega)]; rfl); simpa using this
  · have := h3 (j * 2 + 1) (.string l[j].t) (by rw [g 1 (by omega)]; rfl); simpa [Nat.add_assoc] using this
end
theorem ownP_pcs {w : World} {base n : Nat} {v : Value} {l : List Pc} (h : w.ownsRow base 30 2 v n (l.flatMap Pc.cells)) (hs : ∀ p ∈ l, p.wf) : ∃ A c, v = .slice A n c ∧ n ≤ c ∧ Pcs w A n l := by
  have hl : l.length = n := by have := h.1; rw [flat_len pc_cells_len] at this; omega
  have hc := fun g hg => h.cells (g := g) hg
  rcases h.2 with ⟨rfl, rfl⟩ | ⟨g, cap, cur, rfl, hb, hgg, hnc, _⟩
  · obtain rfl : l = [] := List.eq_nil_of_length_eq_zero hl
    exact ⟨none, 0, rfl, Nat.le_refl _, Pcs.nil _ _⟩
  · exact ⟨_, _, rfl, hnc, hl, hs, Cells.of_add _ (hc g rfl)⟩
theorem infoPc : (Try.prog.info? 30).map (fun i => (i.zero, i.size, i.bytes)) = some (some (.agg #[.int .i64 0, .string ⟨#[]⟩]), 2, 24) := by kernel_rfl
theorem underPc : Try.prog.underlying 25 = some (.slice 30) := by kernel_rfl

/-! ### Joins -/
theorem strs_cells {w : World} {bk o n : Nat} {xs : List ByteArray} (h : Strs w (some ⟨bk, o, none⟩) n xs) : ∀ (j : Nat) x, xs[j]? = some x → w.cell? ⟨bk, o + j, none⟩ = some (.string x) := by
  intro j x hx
  obtain ⟨b, off, s, hA, _, hs, _, hc⟩ := h.get (k := j) (by rw [← h.1]; exact (List.getElem?_eq_some_iff.1 hx).1)
  cases hA
  rw [hx] at hs
  cases hs
  exact hc
theorem join_empty (xs : List ByteArray) : (⟨(Lib.join (xs.map (·.data.toList)) (⟨#[]⟩ : ByteArray).data.toList).toArray⟩ : ByteArray) = joinV xs := by
  unfold joinV mkS Lib.join
  congr 2
  show List.intercalate [] _ = _
  induction xs with
  | nil => rfl
  | cons x r ih =>
    rw [List.map_cons, List.flatten_cons, ← ih]
    cases r with
    | nil => simp [List.intercalate]
    | cons y r => simp [List.intercalate]
/-- strings.Join with nothing between. -/
theorem join_is {A : Option Addr} {n c : Nat} {xs : List ByteArray} {w : World} {s : ByteArray} (hr : joinV xs = s) (hS : Strs w A n xs) (hnc : n ≤ c) (hs : s.size ≤ 100000) (hN : n ≤ 100000) :
    Calls Try.prog 35 #[.slice A n c, .string ⟨#[]⟩] w fun e w' => e = .returned (.string s) ∧ Ext w w' := by
  subst hr
  by_cases h0 : n = 0
  · subst h0
    obtain rfl : xs = [] := List.eq_nil_of_length_eq_zero hS.1
    refine (sh_strings_Join_none A c ⟨#[]⟩ w).mono ?_
    rintro e w' ⟨rfl, rfl⟩
    exact ⟨rfl, Ext.refl _⟩
  · obtain ⟨bk, o, s, rfl, hbk, -, -, -⟩ := hS.get (k := 0) (by omega)
    have hl := hS.1
    subst hl
    have hj := join_empty xs
    refine (sh_strings_Join bk o c xs ⟨#[]⟩ w (strs_cells hS) hbk ?_ hnc ?_).mono ?_
    · omega
    · have h2 := congrArg ByteArray.size hj
      have h3 : (Lib.join (xs.map (·.data.toList)) (⟨#[]⟩ : ByteArray).data.toList).length = (joinV xs).size := h2
      rw [h3]; omega
    · rintro e w' ⟨rfl, hB⟩
      exact ⟨by rw [hj], hB⟩

/-! ### The closure that adds a piece to a captured list -/
/-- The variable in block g holds the pieces L, in a row of the call's own. -/
def OutAt (g base : Nat) (L : List Pc) (w : World) : Prop := ∃ v, Blk w g (.cells #[v] 25 (0, 0)) ∧ w.ownsRow base 30 2 v L.length (L.flatMap Pc.cells)
/-- What stands while pieces are added. -/
def OutK (g base : Nat) (w w' : World) : Prop := Below base w w' ∧ Lib.OthersKept 30 (some g) w w'
theorem OutK.refl (g base : Nat) (w : World) : OutK g base w w := ⟨Below.refl _ _, Lib.OthersKept.refl _ _ _⟩
theorem OutK.trans {g base : Nat} {a b c : World} (h : OutK g base a b) (k : OutK g base b c) : OutK g base a c := ⟨Below.trans h.1 k.1, h.2.trans k.2⟩
theorem OutK.blk {g base k : Nat} {a b : World} {cs : Array Value} {t : TypeId} (h : OutK g base a b) (hb : Blk a k (.cells cs t (0, 0))) (hk : k ≠ g) (ht : t ≠ 30) : Blk b k (.cells cs t (0, 0)) :=
  h.2 k _ hb (fun e => hk (Option.some.inj e)) (fun c fz e => ht (by cases e; rfl))
theorem own_type {w : World} {base : Nat} {e : TypeId} {size n : Nat} {v : Value} {xs : List Value} (h : w.ownsRow base e size v n xs) : ∀ k, v.ownBlock = some k → ∃ cs fz, w.heap[k]? = some (.cells cs e fz) := by
  intro k hk
  rcases h.2 with ⟨rfl, -⟩ | ⟨g, cap, cur, rfl, hb, hgg, -⟩
  · cases hk
  · cases hk; exact ⟨_, _, hgg⟩
theorem own_shape {w : World} {base : Nat} {e : TypeId} {size n : Nat} {v : Value} {xs : List Value} (h : w.ownsRow base e size v n xs) : ∃ A c, v = .slice A n c := by
  rcases h.2 with ⟨rfl, rfl⟩ | ⟨g, cap, cur, rfl, -⟩
  · exact ⟨_, _, rfl⟩
  · exact ⟨_, _, rfl⟩
theorem own_apart {w : World} {base size n g : Nat} {v : Value} {xs : List Value} {cs : Array Value} (h : w.ownsRow base 30 size v n xs) (hb : Blk w g (.cells cs 25 (0, 0))) : v.ownBlock ≠ some g := by
  intro e
  obtain ⟨cs', fz, hc⟩ := own_type h g e
  rw [show w.heap[g]? = _ from hb] at hc
  cases hc
theorem outK_of {g base : Nat} {v : Value} {L : List Pc} {w w' : World} (hb : base ≤ g) (ho : w.ownsRow base 30 2 v L.length (L.flatMap Pc.cells)) (h : Lv (fun k => k = g ∨ v.ownBlock = some k) w w') (hbase : base ≤ w.heap.size) : OutK g base w w' := by
  refine ⟨⟨h.1.os, h.1.tape, h.1.output, h.1.size, fun k hk => h.2 k (Nat.lt_of_lt_of_le hk hbase) ?_⟩, ?_⟩
  · rintro (rfl | e)
    · omega
    · have := (ho.lt k e).1; omega
  · intro k o hk hkg hne
    rw [h.2 k (Array.getElem?_eq_some_iff.1 hk).1 ?_]
    · exact hk
    · rintro (rfl | e)
      · exact hkg rfl
      · obtain ⟨cs, fz, hc⟩ := own_type ho k e
        rw [hk] at hc
        exact hne cs fz (Option.some.inj hc)
set_option maxRecDepth 100000 in
set_option maxHeartbeats 8000000 in
theorem add_any (k : Int) (A : Option Addr) (n c : Nat) (ws : Lns) (g base : Nat) (L : List Pc) (w : World) (hS : Strs w A n ws) (hnc : n ≤ c) (hn : n ≤ 1000) (hO : OutAt g base L w) (hb : base ≤ g) (hs : (joinV ws).size ≤ 1000) (hL : L.length ≤ 1000) (hbase : base ≤ w.heap.size) :
    Calls Try.prog 34 #[.int .i64 k, .slice A n c, .pointer (some ⟨g, 0, none⟩)] w fun e w' => e = .returned (.tuple #[]) ∧ OutAt g base (L ++ pcV k ws) w' ∧ OutK g base w w' := by
  obtain ⟨inf, i1, i2, i3, i4⟩ := info_of infoPc
  have I1 := Lib.hid i1; have I2 := Lib.hid i2; have I3 := Lib.hid i3; have I4 := Lib.hid i4; clear i1 i2 i3 i4
  by_cases h0 : n = 0
  · have hw : ws = [] := List.eq_nil_of_length_eq_zero (by rw [hS.1, h0])
    have hp : pcV k ws = [] := by rw [hw]; rfl
    have HO := Lib.hid hO; have HP := Lib.hid hp; clear hO hp hw hS
    subst h0
    go_enter Try.func34, Try.ntmps34
    go_wp2_with fail
    go_end0
    refine ⟨rfl, ?_, OutK.refl _ _ _⟩
    rw [HP.out, List.append_nil]; exact HO.out
  · have hw : ws ≠ [] := by intro e; rw [e] at hS; exact h0 hS.1.symm
    have hp : pcV k ws = [⟨k, joinV ws⟩] := by rw [pcV, if_neg hw]
    obtain ⟨v, hv, ho⟩ := hO
    obtain ⟨s, hj⟩ : ∃ s, joinV ws = s := ⟨_, rfl⟩
    rw [hj] at hp hs
    have hc := hv.cell 0
    replace hc : w.cell? ⟨g, 0, none⟩ = some v := hc
    have HV := Lib.hid hv; have HO := Lib.hid ho; have HP := Lib.hid hp; have HS := Lib.hid hS; have HC := Lib.hid hc; have HJ := Lib.hid hj; clear hv ho hp hw hS hc hj
    have h1 : 0 < n := by omega
    go_enter Try.func34, Try.ntmps34
    go_wp2_with fail
    refine wp_region_X (T := fun _ => True) (fun wx => Ext w wx) (by kernel_rfl) (Ext.refl w).drew (wpX_takes (by kernel_rfl) (fun _ d _ _ _ h => by cases d <;> exact h) (Stab.ext _) (fun _ _ => trivial) (fuel := 6) [1, 2] _ _ (by kernel_rfl) ?_)
    iterate 2
      refine wpTk_want rfl (Eq.refl true) ?_
      apply Exists.intro
      refine ⟨fun wx hx => ?_, ?_⟩
      · clear hx
        go_simp
        with_reducible exact gives_ok _ _ _
      simp only [Act.put, List.setIfInBounds_toArray, List.set_cons_zero, List.set_cons_succ]
    refine wpTk_nil ?_
    have hvg : v.ownBlock ≠ some g := own_apart HO.out HV.out
    have HVG := Lib.hid hvg; clear hvg
    refine wpX_two 0 3 (by kernel_rfl) rfl rfl rfl rfl (fun wx hx K hK => ?_) (fun wx hx K hK => ?_)
    · skip
      have hc := hx.cell HC.out
      go_simp
      refine hK _ _ ⟨fun wz => Ext w wz, Stab.ext _, (fun _ _ => trivial), hx, ?_⟩
      clear hK K hc hx wx
      refine wpX_one 3 (by kernel_rfl) rfl rfl (fun wx hx K hK => ?_)
      go_simp
      refine (join_is HJ.out (HS.out.ext hx) hnc (by omega) (by omega)).mono ?_
      rintro e wy ⟨rfl, hE⟩
      refine hK _ _ ⟨fun wz => Ext w wz, Stab.ext _, (fun _ _ => trivial), hx.trans hE, ?_⟩
      clear hK K hx hE wx wy
      refine wpX_one 4 (by kernel_rfl) rfl rfl (fun wx hx K hK => ?_)
      go_simp
      refine hK _ _ ⟨fun wz => Ext w wz, Stab.ext _, (fun _ _ => trivial), hx, ?_⟩
      clear hK K hx wx
      refine wpX_one 5 (by kernel_rfl) rfl rfl (fun wx hx K hK => ?_)
      go_simp
      refine hK _ _ ⟨fun wz => Ext w wz ∧ Blk wz wx.heap.size (Pc.obj ⟨k, s⟩), (Stab.ext _).and (Stab.blk _ _), (fun _ _ => trivial), ⟨hx.alloc _, Blk.new wx _ rfl⟩, ?_⟩
      obtain ⟨g0, hg0⟩ : ∃ g0, g0 = wx.heap.size := ⟨_, rfl⟩
      rw [← hg0]
      clear hK K hx hg0 wx
      refine wpX_append_size 6 (by kernel_rfl) rfl rfl (.tmp 8) (.tmp 13) 25 rfl base 30 inf _ 2 24 underPc I1.out I2.out I3.out I4.out rfl (by decide) v L.length (L.flatMap Pc.cells) (some ⟨g0, 0, none⟩) 1 1 (Pc.cells ⟨k, s⟩) rfl rfl rfl (by simp [Pc.cells, Value.oneCell']) (by simp only [maxLen]; omega) (by omega)
        (fun wx hx => ⟨own_stab3 hx.1 HO.out, .inr ⟨_, 0, rfl, fun j u hu => by rw [hx.2.cell]; simpa [Pc.cells] using hu⟩, Nat.le_trans hbase hx.1.size⟩) (fun wx hx v2 wy hown hg => ?_)
      obtain ⟨A2, c2, rfl⟩ := own_shape hown
      refine ⟨fun wz => Lv (fun k => k = g ∨ v.ownBlock = some k) w wz ∧ wz.ownsRow base 30 2 (.slice A2 (L.length + 1) c2) (L.length + 1) (L.flatMap Pc.cells ++ Pc.cells ⟨k, s⟩) ∧ Blk wz g (.cells #[v] 25 (0, 0)),
        fun _ _ e h => ⟨h.1.ext e, own_stab3 e h.2.1, h.2.2.ext e⟩, (fun _ _ => trivial), ⟨(Lv.of_ext hx.1).grown hg (fun k hk _ => .inr hk), hown, ?_⟩, ?_⟩
      · show wy.heap[g]? = _
        rw [hg.block g (Nat.lt_of_lt_of_le HV.out.lt hx.1.size) (fun e => HVG.out e.symm)]
        exact HV.out.ext hx.1
      clear hx hown hg wx wy
      refine wpX_one 7 (by kernel_rfl) rfl rfl (fun wx hx K hK => ?_)
      obtain ⟨hx1, hx2, hx3⟩ := hx
      have hc := hx3.cell 0
      replace hc : wx.cell? ⟨g, 0, none⟩ = some v := hc
      have hf := free_of_one (w := wx) hx3
      have HX := Lib.hid hx1; have HX2 := Lib.hid hx2; have HX3 := Lib.hid hx3; clear hx1 hx2 hx3
      go_simp
      refine hK _ _ ⟨fun wz => Lv (fun k => k = g ∨ v.ownBlock = some k) w wz ∧ wz.ownsRow base 30 2 (.slice A2 (L.length + 1) c2) (L.length + 1) (L.flatMap Pc.cells ++ Pc.cells ⟨k, s⟩) ∧ Blk wz g (.cells #[.slice A2 (L.length + 1) c2] 25 (0, 0)),
        fun _ _ e h => ⟨h.1.ext e, own_stab3 e h.2.1, h.2.2.ext e⟩, (fun _ _ => trivial), ⟨HX.out.setCell (fun _ => .inl rfl) _, ownsRow_setCell_other HX2.out (own_apart HX2.out HX3.out) _, one_setCell HX3.out⟩, ?_⟩
      clear hK K hc hf HX HX2 HX3 wx
      refine wpX_done (by kernel_rfl) (fun wx hx => ?_) _
      obtain ⟨hx1, hx2, hx3⟩ := hx
      have HX := Lib.hid hx1; have HX2 := Lib.hid hx2; have HX3 := Lib.hid hx3; clear hx1 hx2 hx3
      go_wp2_with fail
      go_end0
      refine ⟨rfl, ⟨_, HX3.out, ?_⟩, outK_of hb HO.out HX.out hbase⟩
      rw [HP.out, List.length_append, List.flatMap_append]
      simpa using HX2.out
    · skip
      go_simp
      refine (join_is HJ.out (HS.out.ext hx) hnc (by omega) (by omega)).mono ?_
      rintro e wy ⟨rfl, hE⟩
      refine hK _ _ ⟨fun wz => Ext w wz, Stab.ext _, (fun _ _ => trivial), hx.trans hE, ?_⟩
      clear hK K hx hE wx wy
      refine wpX_two 0 4 (by kernel_rfl) rfl rfl rfl rfl (fun wx hx K hK => ?_) (fun wx hx K hK => ?_)
      · skip
        have hc := hx.cell HC.out
        go_simp
        refine hK _ _ ⟨fun wz => Ext w wz, Stab.ext _, (fun _ _ => trivial), hx, ?_⟩
        clear hK K hc hx wx
        refine wpX_one 4 (by kernel_rfl) rfl rfl (fun wx hx K hK => ?_)
        go_simp
        refine hK _ _ ⟨fun wz => Ext w wz, Stab.ext _, (fun _ _ => trivial), hx, ?_⟩
        clear hK K hx wx
        refine wpX_one 5 (by kernel_rfl) rfl rfl (fun wx hx K hK => ?_)
        go_simp
        refine hK _ _ ⟨fun wz => Ext w wz ∧ Blk wz wx.heap.size (Pc.obj ⟨k, s⟩), (Stab.ext _).and (Stab.blk _ _), (fun _ _ => trivial), ⟨hx.alloc _, Blk.new wx _ rfl⟩, ?_⟩
        obtain ⟨g0, hg0⟩ : ∃ g0, g0 = wx.heap.size := ⟨_, rfl⟩
        rw [← hg0]
        clear hK K hx hg0 wx
        refine wpX_append_size 6 (by kernel_rfl) rfl rfl (.tmp 8) (.tmp 13) 25 rfl base 30 inf _ 2 24 underPc I1.out I2.out I3.out I4.out rfl (by decide) v L.length (L.flatMap Pc.cells) (some ⟨g0, 0, none⟩) 1 1 (Pc.cells ⟨k, s⟩) rfl rfl rfl (by simp [Pc.cells, Value.oneCell']) (by simp only [maxLen]; omega) (by omega)
          (fun wx hx => ⟨own_stab3 hx.1 HO.out, .inr ⟨_, 0, rfl, fun j u hu => by rw [hx.2.cell]; simpa [Pc.cells] using hu⟩, Nat.le_trans hbase hx.1.size⟩) (fun wx hx v2 wy hown hg => ?_)
        obtain ⟨A2, c2, rfl⟩ := own_shape hown
        refine ⟨fun wz => Lv (fun k => k = g ∨ v.ownBlock = some k) w wz ∧ wz.ownsRow base 30 2 (.slice A2 (L.length + 1) c2) (L.length + 1) (L.flatMap Pc.cells ++ Pc.cells ⟨k, s⟩) ∧ Blk wz g (.cells #[v] 25 (0, 0)),
          fun _ _ e h => ⟨h.1.ext e, own_stab3 e h.2.1, h.2.2.ext e⟩, (fun _ _ => trivial), ⟨(Lv.of_ext hx.1).grown hg (fun k hk _ => .inr hk), hown, ?_⟩, ?_⟩
        · show wy.heap[g]? = _
          rw [hg.block g (Nat.lt_of_lt_of_le HV.out.lt hx.1.size) (fun e => HVG.out e.symm)]
          exact HV.out.ext hx.1
        clear hx hown hg wx wy
        refine wpX_one 7 (by kernel_rfl) rfl rfl (fun wx hx K hK => ?_)
        obtain ⟨hx1, hx2, hx3⟩ := hx
        have hc := hx3.cell 0
        replace hc : wx.cell? ⟨g, 0, none⟩ = some v := hc
        have hf := free_of_one (w := wx) hx3
        have HX := Lib.hid hx1; have HX2 := Lib.hid hx2; have HX3 := Lib.hid hx3; clear hx1 hx2 hx3
        go_simp
        refine hK _ _ ⟨fun wz => Lv (fun k => k = g ∨ v.ownBlock = some k) w wz ∧ wz.ownsRow base 30 2 (.slice A2 (L.length + 1) c2) (L.length + 1) (L.flatMap Pc.cells ++ Pc.cells ⟨k, s⟩) ∧ Blk wz g (.cells #[.slice A2 (L.length + 1) c2] 25 (0, 0)),
          fun _ _ e h => ⟨h.1.ext e, own_stab3 e h.2.1, h.2.2.ext e⟩, (fun _ _ => trivial), ⟨HX.out.setCell (fun _ => .inl rfl) _, ownsRow_setCell_other HX2.out (own_apart HX2.out HX3.out) _, one_setCell HX3.out⟩, ?_⟩
        clear hK K hc hf HX HX2 HX3 wx
        refine wpX_done (by kernel_rfl) (fun wx hx => ?_) _
        obtain ⟨hx1, hx2, hx3⟩ := hx
        have HX := Lib.hid hx1; have HX2 := Lib.hid hx2; have HX3 := Lib.hid hx3; clear hx1 hx2 hx3
        go_wp2_with fail
        go_end0
        refine ⟨rfl, ⟨_, HX3.out, ?_⟩, outK_of hb HO.out HX.out hbase⟩
        rw [HP.out, List.length_append, List.flatMap_append]
        simpa using HX2.out
      · skip
        go_simp
        refine hK _ _ ⟨fun wz => Ext w wz, Stab.ext _, (fun _ _ => trivial), hx, ?_⟩
        clear hK K hx wx
        refine wpX_two 0 5 (by kernel_rfl) rfl rfl rfl rfl (fun wx hx K hK => ?_) (fun wx hx K hK => ?_)
        · skip
          have hc := hx.cell HC.out
          go_simp
          refine hK _ _ ⟨fun wz => Ext w wz, Stab.ext _, (fun _ _ => trivial), hx, ?_⟩
          clear hK K hc hx wx
          refine wpX_one 5 (by kernel_rfl) rfl rfl (fun wx hx K hK => ?_)
          go_simp
          refine hK _ _ ⟨fun wz => Ext w wz ∧ Blk wz wx.heap.size (Pc.obj ⟨k, s⟩), (Stab.ext _).and (Stab.blk _ _), (fun _ _ => trivial), ⟨hx.alloc _, Blk.new wx _ rfl⟩, ?_⟩
          obtain ⟨g0, hg0⟩ : ∃ g0, g0 = wx.heap.size := ⟨_, rfl⟩
          rw [← hg0]
          clear hK K hx hg0 wx
          refine wpX_append_size 6 (by kernel_rfl) rfl rfl (.tmp 8) (.tmp 13) 25 rfl base 30 inf _ 2 24 underPc I1.out I2.out I3.out I4.out rfl (by decide) v L.length (L.flatMap Pc.cells) (some ⟨g0, 0, none⟩) 1 1 (Pc.cells ⟨k, s⟩) rfl rfl rfl (by simp [Pc.cells, Value.oneCell']) (by simp only [maxLen]; omega) (by omega)
            (fun wx hx => ⟨own_stab3 hx.1 HO.out, .inr ⟨_, 0, rfl, fun j u hu => by rw [hx.2.cell]; simpa [Pc.cells] using hu⟩, Nat.le_trans hbase hx.1.size⟩) (fun wx hx v2 wy hown hg => ?_)
          obtain ⟨A2, c2, rfl⟩ := own_shape hown
          refine ⟨fun wz => Lv (fun k => k = g ∨ v.ownBlock = some k) w wz ∧ wz.ownsRow base 30 2 (.slice A2 (L.length + 1) c2) (L.length + 1) (L.flatMap Pc.cells ++ Pc.cells ⟨k, s⟩) ∧ Blk wz g (.cells #[v] 25 (0, 0)),
            fun _ _ e h => ⟨h.1.ext e, own_stab3 e h.2.1, h.2.2.ext e⟩, (fun _ _ => trivial), ⟨(Lv.of_ext hx.1).grown hg (fun k hk _ => .inr hk), hown, ?_⟩, ?_⟩
          · show wy.heap[g]? = _
            rw [hg.block g (Nat.lt_of_lt_of_le HV.out.lt hx.1.size) (fun e => HVG.out e.symm)]
            exact HV.out.ext hx.1
          clear hx hown hg wx wy
          refine wpX_one 7 (by kernel_rfl) rfl rfl (fun wx hx K hK => ?_)
          obtain ⟨hx1, hx2, hx3⟩ := hx
          have hc := hx3.cell 0
          replace hc : wx.cell? ⟨g, 0, none⟩ = some v := hc
          have hf := free_of_one (w := wx) hx3
          have HX := Lib.hid hx1; have HX2 := Lib.hid hx2; have HX3 := Lib.hid hx3; clear hx1 hx2 hx3
          go_simp
          refine hK _ _ ⟨fun wz => Lv (fun k => k = g ∨ v.ownBlock = some k) w wz ∧ wz.ownsRow base 30 2 (.slice A2 (L.length + 1) c2) (L.length + 1) (L.flatMap Pc.cells ++ Pc.cells ⟨k, s⟩) ∧ Blk wz g (.cells #[.slice A2 (L.length + 1) c2] 25 (0, 0)),
            fun _ _ e h => ⟨h.1.ext e, own_stab3 e h.2.1, h.2.2.ext e⟩, (fun _ _ => trivial), ⟨HX.out.setCell (fun _ => .inl rfl) _, ownsRow_setCell_other HX2.out (own_apart HX2.out HX3.out) _, one_setCell HX3.out⟩, ?_⟩
          clear hK K hc hf HX HX2 HX3 wx
          refine wpX_done (by kernel_rfl) (fun wx hx => ?_) _
          obtain ⟨hx1, hx2, hx3⟩ := hx
          have HX := Lib.hid hx1; have HX2 := Lib.hid hx2; have HX3 := Lib.hid hx3; clear hx1 hx2 hx3
          go_wp2_with fail
          go_end0
          refine ⟨rfl, ⟨_, HX3.out, ?_⟩, outK_of hb HO.out HX.out hbase⟩
          rw [HP.out, List.length_append, List.flatMap_append]
          simpa using HX2.out
        · skip
          go_simp
          refine hK _ _ ⟨fun wz => Ext w wz ∧ Blk wz wx.heap.size (Pc.obj ⟨k, s⟩), (Stab.ext _).and (Stab.blk _ _), (fun _ _ => trivial), ⟨hx.alloc _, Blk.new wx _ rfl⟩, ?_⟩
          obtain ⟨g0, hg0⟩ : ∃ g0, g0 = wx.heap.size := ⟨_, rfl⟩
          rw [← hg0]
          clear hK K hx hg0 wx
          refine wpX_one 0 (by kernel_rfl) rfl rfl (fun wx hx K hK => ?_)
          have hc := hx.1.cell HC.out
          go_simp
          refine hK _ _ ⟨fun wz => Ext w wz ∧ Blk wz g0 (Pc.obj ⟨k, s⟩), (Stab.ext _).and (Stab.blk _ _), (fun _ _ => trivial), hx, ?_⟩
          clear hK K hc hx wx
          refine wpX_append_size 6 (by kernel_rfl) rfl rfl (.tmp 8) (.tmp 13) 25 rfl base 30 inf _ 2 24 underPc I1.out I2.out I3.out I4.out rfl (by decide) v L.length (L.flatMap Pc.cells) (some ⟨g0, 0, none⟩) 1 1 (Pc.cells ⟨k, s⟩) rfl rfl rfl (by simp [Pc.cells, Value.oneCell']) (by simp only [maxLen]; omega) (by omega)
            (fun wx hx => ⟨own_stab3 hx.1 HO.out, .inr ⟨_, 0, rfl, fun j u hu => by rw [hx.2.cell]; simpa [Pc.cells] using hu⟩, Nat.le_trans hbase hx.1.size⟩) (fun wx hx v2 wy hown hg => ?_)
          obtain ⟨A2, c2, rfl⟩ := own_shape hown
          refine ⟨fun wz => Lv (fun k => k = g ∨ v.ownBlock = some k) w wz ∧ wz.ownsRow base 30 2 (.slice A2 (L.length + 1) c2) (L.length + 1) (L.flatMap Pc.cells ++ Pc.cells ⟨k, s⟩) ∧ Blk wz g (.cells #[v] 25 (0, 0)),
            fun _ _ e h => ⟨h.1.ext e, own_stab3 e h.2.1, h.2.2.ext e⟩, (fun _ _ => trivial), ⟨(Lv.of_ext hx.1).grown hg (fun k hk _ => .inr hk), hown, ?_⟩, ?_⟩
          · show wy.heap[g]? = _
            rw [hg.block g (Nat.lt_of_lt_of_le HV.out.lt hx.1.size) (fun e => HVG.out e.symm)]
            exact HV.out.ext hx.1
          clear hx hown hg wx wy
          refine wpX_one 7 (by kernel_rfl) rfl rfl (fun wx hx K hK => ?_)
          obtain ⟨hx1, hx2, hx3⟩ := hx
          have hc := hx3.cell 0
          replace hc : wx.cell? ⟨g, 0, none⟩ = some v := hc
          have hf := free_of_one (w := wx) hx3
          have HX := Lib.hid hx1; have HX2 := Lib.hid hx2; have HX3 := Lib.hid hx3; clear hx1 hx2 hx3
          go_simp
          refine hK _ _ ⟨fun wz => Lv (fun k => k = g ∨ v.ownBlock = some k) w wz ∧ wz.ownsRow base 30 2 (.slice A2 (L.length + 1) c2) (L.length + 1) (L.flatMap Pc.cells ++ Pc.cells ⟨k, s⟩) ∧ Blk wz g (.cells #[.slice A2 (L.length + 1) c2] 25 (0, 0)),
            fun _ _ e h => ⟨h.1.ext e, own_stab3 e h.2.1, h.2.2.ext e⟩, (fun _ _ => trivial), ⟨HX.out.setCell (fun _ => .inl rfl) _, ownsRow_setCell_other HX2.out (own_apart HX2.out HX3.out) _, one_setCell HX3.out⟩, ?_⟩
          clear hK K hc hf HX HX2 HX3 wx
          refine wpX_done (by kernel_rfl) (fun wx hx => ?_) _
          obtain ⟨hx1, hx2, hx3⟩ := hx
          have HX := Lib.hid hx1; have HX2 := Lib.hid hx2; have HX3 := Lib.hid hx3; clear hx1 hx2 hx3
          go_wp2_with fail
          go_end0
          refine ⟨rfl, ⟨_, HX3.out, ?_⟩, outK_of hb HO.out HX.out hbase⟩
          rw [HP.out, List.length_append, List.flatMap_append]
          simpa using HX2.out
end Go.Proofs.Ytmmppfopokbcfaa

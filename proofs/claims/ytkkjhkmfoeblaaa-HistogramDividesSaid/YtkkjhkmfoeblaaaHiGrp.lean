/- A map from strings to slices of numbers, through the caller's steps. No condition. -/
import Derived.Test.YtkkjhkmfoeblaaaHiMap
import Derived.Test.YtkkjhkmfoeblaaaIter
import Derived.Maps.OwnRows
import Derived.Maps.GroupsBeside
namespace Go.Proofs.Ytkkjhkmfoeblaaa
open Go.RowKit Go.WideMaps Go.Maps Go.WideElems Go.MapKept

theorem ints_lv {S : Nat → Prop} {w w' : World} {base : Nat} {e : TypeId} {q : IntKind} {v : Value} {zs : List Int} (h : w.ownsInts base e q v zs) (hv : Lv S w w') (hS : ∀ g, v.ownBlock = some g → ¬ S g) : w'.ownsInts base e q v zs := by
  obtain ⟨⟨h1, h2⟩, h3⟩ := h
  refine ⟨⟨h1, ?_⟩, h3⟩
  rcases h2 with hn | ⟨g, cap, cur, rfl, hb, hgg, rest⟩
  · exact .inl hn
  · exact .inr ⟨g, cap, cur, rfl, hb, (hv.2 g (Array.getElem?_eq_some_iff.1 hgg).1 (hS g rfl)).trans hgg, rest⟩
theorem groups_lv {H : Type} {P : Program} {S : Nat → Prop} {w w' : World} {k : TypeId} {base : Nat} {e : TypeId} {q : IntKind} {b n : Nat} {D : DataW H} (h : w.ownsGroups P k base e q b n D) (hv : Lv S w w') (hb' : ¬ S b) (hsh : w.Shuns b S) :
    w'.ownsGroups P k base e q b n D ∧ w'.heap[b]? = w.heap[b]? := by
  obtain ⟨es, clock, hb, F, hs, rfl, hbb, hlen, hap⟩ := h
  have hblt : b < w.heap.size := (Array.getElem?_eq_some_iff.1 hb).1
  have hbe := hv.2 b hblt hb'
  have hst : ∀ x ∈ es.toList, ∀ z, rowElem (H := H) w base e q x.val = some z → rowElem w' base e q x.val = some z := fun x hx z hz => by
    obtain ⟨zs, ho, rfl⟩ := rowElem_inv hz
    exact rowElem_mk (ints_lv ho hv (hsh es clock hb x hx))
  obtain ⟨F1, hmap, _⟩ := F.stay hst
  refine ⟨⟨es, clock, hbe.trans hb, F1, hs, by rw [hmap], hbb, fun x hx zs ho => ?_, hap⟩, hbe⟩
  obtain ⟨y, hy⟩ := F.reads x hx
  obtain ⟨z, hz, _⟩ := rd_val hy
  obtain ⟨zs0, ho0, _⟩ := rowElem_inv hz
  rw [ho.unique (ints_lv ho0 hv (hsh es clock hb x hx))]
  exact hlen x hx zs0 ho0

open Go.ChangeShapes (lits)
/-- What a list of numbers reads as. -/
def dat (zs : List Int) : DataW Unit := if zs = [] then .nil else .slice (lits .i64 zs) []
theorem lits_inj {q : IntKind} : ∀ {a b : List Int}, (lits q a : List (DataW Unit)) = lits q b → a = b
  | [], [], _ => rfl
  | [], _ :: _, h => by simp [lits] at h
  | _ :: _, [], h => by simp [lits] at h
  | x :: a, y :: b, h => by
    simp only [lits, List.map_cons, List.cons.injEq] at h
    obtain ⟨h1, h2⟩ := h
    rw [lits_inj (q := q) (a := a) (b := b) h2]
    simpa using h1
theorem dat_of {w : World} {base : Nat} {e : TypeId} {v : Value} {zs fs : List Int} (ho : w.ownsInts base e .i64 v zs) (h : dat fs = rowDatum .i64 v zs) : zs = fs := by
  unfold dat at h
  rcases ho.datum (H := Unit) with ⟨h1, rfl⟩ | h1
  · rw [h1] at h
    by_cases hf : fs = []
    · exact hf.symm
    · rw [if_neg hf] at h; cases h
  · rw [h1] at h
    by_cases hf : fs = []
    · rw [if_pos hf] at h; cases h
    · rw [if_neg hf] at h
      injection h with h2
      exact (lits_inj h2).symm

/-- Block g is a map of lists, from base on, that tells F. -/
def GrpI (w : World) (base g n : Nat) (F : ByteArray → List Int) : Prop :=
  ∃ D : DataW Unit, w.ownsGroups Try.prog 9 base 3 .i64 g n D ∧ (∃ es, D = .map es) ∧ ∀ s, D.atKey (kOf s) .nil = dat (F s)
theorem GrpI.new (w : World) : GrpI (w.alloc (.map #[] 0)) (w.heap.size + 1) w.heap.size 0 (fun _ => []) :=
  ⟨_, World.ownsGroups_made _ _ _ _ _, ⟨_, rfl⟩, fun s => by rfl⟩
theorem GrpI.lv {S : Nat → Prop} {w w' : World} {base g n : Nat} {F : ByteArray → List Int} (h : GrpI w base g n F) (hv : Lv S w w') (hb : ¬ S g) (hsh : w.Shuns g S) : GrpI w' base g n F ∧ w'.heap[g]? = w.heap[g]? := by
  obtain ⟨D, h1, h2, h3⟩ := h
  exact ⟨⟨D, (groups_lv h1 hv hb hsh).1, h2, h3⟩, (groups_lv h1 hv hb hsh).2⟩
end Go.Proofs.Ytkkjhkmfoeblaaa

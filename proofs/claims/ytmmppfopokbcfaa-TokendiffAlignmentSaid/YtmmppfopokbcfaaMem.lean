/- What is known of a world: a list of blocks. No condition. -/
import Derived.Test.YtmmppfopokbcfaaAppend
namespace Go.Proofs.Ytmmppfopokbcfaa
open Go.RowKit

/-- From w0 on nothing old has turned, and the blocks of L are known. -/
def Know (w0 : World) (L : List (Nat × Obj)) (wx : World) : Prop := Ext w0 wx ∧ ∀ p ∈ L, Blk wx p.1 p.2
section
variable {w0 wx wy : World} {L : List (Nat × Obj)}
theorem Know.start (w : World) : Know w [] w := ⟨Ext.refl w, by simp⟩
theorem Know.ext (h : Know w0 L wx) (e : Ext wx wy) : Know w0 L wy := ⟨h.1.trans e, fun p hp => (h.2 p hp).ext e⟩
theorem Know.new (h : Know w0 L wx) (o : Obj) {g : Nat} (hg : g = wx.heap.size) : Know w0 ((g, o) :: L) (wx.alloc o) :=
  ⟨h.1.alloc o, fun p hp => by
    rcases List.mem_cons.1 hp with rfl | hp
    · exact Blk.new wx o hg
    · exact (h.2 p hp).alloc o⟩
theorem Know.drew (h : Know w0 L wx) : Know w0 L wx.drew := h.ext (Ext.refl wx).drew
theorem Know.stab (w0 : World) (L : List (Nat × Obj)) : Stab (Know w0 L) := fun _ _ e h => h.ext e
theorem Know.at (h : Know w0 L wx) (i : Nat) {g : Nat} {o : Obj} (hi : nth L i = some (g, o)) : Blk wx g o := h.2 (g, o) (List.mem_of_getElem? (by rw [← nth_eq]; exact hi))
theorem Know.lt (h : Know w0 L wx) (i : Nat) {g : Nat} {o : Obj} (hi : nth L i = some (g, o)) : g < wx.heap.size := (h.at i hi).lt
/-- A store of three cells into a block that L does not name. -/
theorem Know.set3 (h : Know w0 L wx) {k : Nat} (hk : w0.heap.size ≤ k) (hL : ∀ p ∈ L, p.1 ≠ k) (x y z : Value) : Know w0 L (((wx.setCell ⟨k, 0, none⟩ x).setCell ⟨k, 1, none⟩ y).setCell ⟨k, 2, none⟩ z) :=
  ⟨h.1.set3 hk _ _ _, fun p hp => (h.2 p hp).far3 (hL p hp) _ _ _⟩
theorem Know.cons (h : Know w0 L wx) {g : Nat} {o : Obj} (hb : Blk wx g o) : Know w0 ((g, o) :: L) wx :=
  ⟨h.1, fun p hp => by
    rcases List.mem_cons.1 hp with rfl | hp
    · exact hb
    · exact h.2 p hp⟩
end
end Go.Proofs.Ytmmppfopokbcfaa

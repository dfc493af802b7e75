/- Contracts of the small functions of myers: table.at. -/
import Derived.Test.YtmmppfopokbcfaaRegion
namespace Go.Proofs.Ytmmppfopokbcfaa
open Go.RowKit

/-- From address A on lie the n numbers xs. -/
def Ints (w : World) (A : Option Addr) (n : Nat) (xs : List Int) : Prop := xs.length = n ∧ Cells w A (xs.map (.int .i64))
section
variable {w w' : World} {A : Option Addr} {n : Nat} {xs : List Int}
theorem Ints.ext (h : Ints w A n xs) (e : Ext w w') : Ints w' A n xs := ⟨h.1, h.2.ext e⟩
theorem Ints.get (h : Ints w A n xs) {k : Nat} (hk : k < n) : ∃ b off x, A = some ⟨b, off, none⟩ ∧ b < w.heap.size ∧ xs[k]? = some x ∧ w.cell? ⟨b, off + k, none⟩ = some (.int .i64 x) := by
  have hl : k < xs.length := by rw [h.1]; exact hk
  obtain ⟨b, off, h1, h2, h3⟩ := h.2.get (k := k) (by simpa using hl)
  exact ⟨b, off, xs[k], h1, h2, List.getElem?_eq_getElem hl, h3 k _ (by simp [hl])⟩
end

/-- The number of a diagonal in a table. -/
def atV (t : List Int) (k : Int) : Option Int :=
  if k < -((t.length : Int) - 1) ∨ (t.length : Int) - 1 < k ∨ (k + ((t.length : Int) - 1)) % 2 ≠ 0 then none else t[((k + ((t.length : Int) - 1)) / 2).toNat]?

def resAt : Option Int → Value
  | none => .tuple #[.int .i64 0, .bool false]
  | some x => .tuple #[.int .i64 x, .bool true]

set_option maxHeartbeats 1000000 in
theorem at_any (A : Option Addr) (n c : Nat) (t : List Int) (k : Int) (w : World) (ht : Ints w A n t) (hn : n ≤ 1000) (hk : -1000 ≤ k) (hk' : k ≤ 1000) :
    Calls Try.prog 61 #[.slice A n c, .int .i64 k] w fun e w' => e = .returned (resAt (atV t k)) ∧ w = w' := by
  have HT := Lib.hid ht; clear ht
  obtain rfl : t.length = n := HT.out.1
  by_cases h1 : k < -((t.length : Int) - 1)
  · go_enter Try.func61, Try.ntmps61
    go_wp2_with fail
    exact bodyPost_ret (v := .tuple #[.int .i64 0, .bool false]) (by simp [results, Try.results61, go_sem]) rfl ⟨by rw [atV, if_pos (.inl h1)]; rfl, rfl⟩
  by_cases h2 : (t.length : Int) - 1 < k
  · go_enter Try.func61, Try.ntmps61
    go_wp2_with fail
    exact bodyPost_ret (v := .tuple #[.int .i64 0, .bool false]) (by simp [results, Try.results61, go_sem]) rfl ⟨by rw [atV, if_pos (.inr (.inl h2))]; rfl, rfl⟩
  have h5 : wrap64 (k + ((t.length : Int) - 1)) = k + ((t.length : Int) - 1) := by unfold wrap64; omega
  by_cases h3 : (k + ((t.length : Int) - 1)) % 2 ≠ 0
  · have h4 : ((k + ((t.length : Int) - 1)) % 2 != 0) = true := by simpa using h3
    go_enter Try.func61, Try.ntmps61
    go_wp2_with fail
    exact bodyPost_ret (v := .tuple #[.int .i64 0, .bool false]) (by simp [results, Try.results61, go_sem]) rfl ⟨by rw [atV, if_pos (.inr (.inr h3))]; rfl, rfl⟩
  have h4 : ((k + ((t.length : Int) - 1)) % 2 != 0) = false := by simpa using h3
  obtain ⟨q, hq⟩ : ∃ q : Nat, (k + ((t.length : Int) - 1)) / 2 = q := ⟨((k + ((t.length : Int) - 1)) / 2).toNat, by omega⟩
  have hql : q < t.length := by omega
  obtain ⟨b, off, x, rfl, hb, hx, hc⟩ := HT.out.get hql
  have HX := Lib.hid hx; clear hx
  have hV : atV t k = some x := by
    rw [atV, if_neg (fun h => h.elim h1 fun h => h.elim h2 h3), hq]
    simpa using HX.out
  have HV := Lib.hid hV; clear hV
  go_enter Try.func61, Try.ntmps61
  go_wp2_with fail
  exact bodyPost_ret (v := .tuple #[.int .i64 x, .bool true]) (by simp [results, Try.results61, go_sem]) rfl ⟨by rw [HV.out]; rfl, rfl⟩
end Go.Proofs.Ytmmppfopokbcfaa

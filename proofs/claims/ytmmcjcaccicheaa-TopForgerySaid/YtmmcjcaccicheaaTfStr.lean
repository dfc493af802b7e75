/- Strings as lists of bytes. No condition. -/
import Derived.Test.YtmmcjcaccicheaaTfHide
namespace Go.Proofs.Ytmmcjcaccicheaa
open Go.RowKit
/-- The string of some bytes. -/
def bst (l : Bs) : ByteArray := ⟨l.toArray⟩
theorem bst_list (l : Bs) : (bst l).data.toList = l := by unfold bst; simp
theorem bst_size (l : Bs) : (bst l).size = l.length := by unfold bst; simp [ByteArray.size]
theorem bst_of (s : ByteArray) : s = bst s.data.toList := by cases s; unfold bst; simp
theorem bst_mk (l : Bs) : (⟨l.toArray⟩ : ByteArray) = bst l := rfl
theorem bst_append (a b : Bs) : bst a ++ bst b = bst (a ++ b) := by
  unfold bst
  apply ByteArray.ext
  simp
theorem bst_lit (a : Bs) (x : Array UInt8) : bst a ++ (⟨x⟩ : ByteArray) = bst (a ++ x.toList) := by
  rw [← bst_append]; unfold bst; simp
theorem lit_bst (a : Bs) (x : Array UInt8) : (⟨x⟩ : ByteArray) ++ bst a = bst (x.toList ++ a) := by
  rw [← bst_append]; unfold bst; simp
theorem bst_extract (l : Bs) (i j : Nat) : (bst l).extract i j = bst ((l.drop i).take (j - i)) := by
  rw [bst_of ((bst l).extract i j), extract_list (bst_list l)]
theorem bst_get (l : Bs) (k : Nat) : (bst l)[k]? = l[k]? := by
  have : (bst l).data.toList[k]? = l[k]? := by rw [bst_list]
  rw [← this, Array.getElem?_toList]
  by_cases h : k < (bst l).size
  · rw [getElem?_pos (bst l) k h, getElem?_pos (bst l).data k h]; rfl
  · rw [getElem?_neg (bst l) k h, getElem?_neg (bst l).data k h]
theorem bst_eq (a b : Bs) : bst a = bst b ↔ a = b := ⟨fun h => by have := congrArg (fun x => x.data.toList) h; simpa [bst_list] using this, fun h => by rw [h]⟩
theorem bst_nil : (⟨#[]⟩ : ByteArray) = bst [] := rfl
theorem one_byte (v : Int) (x : UInt8) (hv : v = x.toNat) (w : World) : (convert 71 9 (.slice (some ⟨w.heap.size, 0, none⟩) 1 1)).run Try.prog (w.alloc (.cells #[.int .u8 v] 5)) = .ok (.string (bst [x])) (w.alloc (.cells #[.int .u8 v] 5)) := by
  subst hv
  refine string_back _ _ _ _ [x] rfl (fun j y hj => ?_)
  rw [Nat.zero_add]
  have := (Arr.new w #[.int .u8 (x.toNat : Int)] 5).cell (i := j) (v := .int .u8 y.toNat) (by
    match j, hj with
    | 0, hj => simp at hj; rw [hj]; rfl
    | j + 1, hj => simp at hj)
  exact this
theorem byte_of (n e : Nat) : ((n : Int) * 8 / 2 ^ e % 256) = ((UInt8.ofNat ((n * 8) >>> e)).toNat : Int) := by
  rw [UInt8.toNat_ofNat', Nat.shiftRight_eq_div_pow, Int.natCast_emod, Int.natCast_ediv, Int.natCast_mul, Int.natCast_pow]
  rfl
theorem lenB_get (n : Nat) {k : Nat} (h : k < 8) : (lenB n)[k]? = some (UInt8.ofNat ((n * 8) >>> (8 * (7 - k)))) := by
  match k, h with
  | 0, _ => rfl | 1, _ => rfl | 2, _ => rfl | 3, _ => rfl | 4, _ => rfl | 5, _ => rfl | 6, _ => rfl | 7, _ => rfl
theorem lenB_take (n : Nat) {k : Nat} (h : k < 8) : (lenB n).take (k + 1) = (lenB n).take k ++ [UInt8.ofNat ((n * 8) >>> (8 * (7 - k)))] := by
  rw [List.take_add_one, lenB_get n h]; rfl
theorem lenB_full (n : Nat) : (lenB n).take 8 = lenB n := rfl
/-- Bytes as values; a digest by value. -/
def ub (x : UInt8) : Int := (x.toNat : Int)
def bv (x : UInt8) : Value := .int .u8 (ub x)
def dgl (l : Bs) : List Value := l.map bv
def dv (l : Bs) : Value := .agg (dgl l).toArray
theorem dgl_len (l : Bs) : (dgl l).length = l.length := by unfold dgl; simp
theorem dgl_one (l : Bs) : ∀ x ∈ dgl l, x.oneCell' = true := by
  intro x hx; unfold dgl at hx; obtain ⟨y, -, rfl⟩ := List.mem_map.1 hx; rfl
theorem dgl_get {l : Bs} {i : Nat} {x : UInt8} (h : l[i]? = some x) : (dgl l)[i]? = some (bv x) := by unfold dgl; rw [List.getElem?_map, h]; rfl
/-- The bytes done, the rest 0. -/
def partB (n : Nat) (l : Bs) (i : Nat) : Bs := l.take i ++ List.replicate (n - i) 0
theorem partB_zero (n : Nat) (l : Bs) : partB n l 0 = List.replicate n 0 := by unfold partB; simp
theorem partB_full {n : Nat} {l : Bs} (h : l.length = n) : partB n l n = l := by unfold partB; subst h; simp
theorem partB_len {n : Nat} {l : Bs} (h : l.length = n) {i : Nat} (hi : i ≤ n) : (partB n l i).length = n := by unfold partB; simp; omega
theorem partB_set {n : Nat} {l : Bs} (h : l.length = n) {i : Nat} {x : UInt8} (hx : l[i]? = some x) : (dgl (partB n l i)).set i (bv x) = dgl (partB n l (i + 1)) := by
  have hi : i < n := by have := (List.getElem?_eq_some_iff.1 hx).1; omega
  have hl : (l.take i).length = i := by simp; omega
  unfold partB dgl
  rw [← List.map_set, List.set_append_right _ _ (by omega), hl, Nat.sub_self, show n - i = (n - (i + 1)) + 1 by omega, List.replicate_succ, List.set_cons_zero, List.take_add_one, hx]
  simp
theorem bytesV_at (v : V8) {q r : Nat} (hq : q < 8) (hr : r < 4) : (bytesV v)[4 * q + r]? = some (byteOf (v.list.getD q 0) r) :=
  match q, hq with
  | 0, _ => match r, hr with | 0, _ => rfl | 1, _ => rfl | 2, _ => rfl | 3, _ => rfl
  | 1, _ => match r, hr with | 0, _ => rfl | 1, _ => rfl | 2, _ => rfl | 3, _ => rfl
  | 2, _ => match r, hr with | 0, _ => rfl | 1, _ => rfl | 2, _ => rfl | 3, _ => rfl
  | 3, _ => match r, hr with | 0, _ => rfl | 1, _ => rfl | 2, _ => rfl | 3, _ => rfl
  | 4, _ => match r, hr with | 0, _ => rfl | 1, _ => rfl | 2, _ => rfl | 3, _ => rfl
  | 5, _ => match r, hr with | 0, _ => rfl | 1, _ => rfl | 2, _ => rfl | 3, _ => rfl
  | 6, _ => match r, hr with | 0, _ => rfl | 1, _ => rfl | 2, _ => rfl | 3, _ => rfl
  | 7, _ => match r, hr with | 0, _ => rfl | 1, _ => rfl | 2, _ => rfl | 3, _ => rfl
theorem bytesV_get (v : V8) {i : Nat} (h : i < 32) : (bytesV v)[i]? = some (byteOf (v.list.getD (i / 4) 0) (i % 4)) := by
  have := bytesV_at v (q := i / 4) (r := i % 4) (by omega) (by omega)
  rwa [show 4 * (i / 4) + i % 4 = i by omega] at this
theorem bytesV_len (v : V8) : (bytesV v).length = 32 := rfl
theorem wn_byte (y : W32) : wn y % 256 = ub (UInt8.ofNat y.toNat) := by
  unfold wn ub
  rw [UInt8.toNat_ofNat', Int.natCast_emod]; rfl
theorem ub_wrap (x : UInt8) : IntKind.u8.wrap (ub x) = ub x := by
  have := x.toNat_lt
  show (ub x) % 256 = ub x
  unfold ub
  omega
theorem ub_ofInt (x : UInt8) : BitVec.ofInt 8 (ub x) = x.toBitVec := by
  apply BitVec.eq_of_toNat_eq
  rw [BitVec.toNat_ofInt]
  unfold ub
  have := x.toNat_lt
  show ((x.toNat : Int) % _).toNat = x.toNat
  omega
theorem xor_byte (x y : UInt8) : bits .xor .u8 (ub x) (ub y) = ub (x ^^^ y) := by
  show IntKind.u8.wrap ((BitVec.ofInt 8 (ub x) ^^^ BitVec.ofInt 8 (ub y) : BitVec 8).toNat : Int) = _
  rw [ub_ofInt, ub_ofInt]
  exact ub_wrap (x ^^^ y)
theorem byteOf_is (x : W32) (k : Nat) : UInt8.ofNat (x >>> (24 - 8 * k)).toNat = byteOf x k := by
  unfold byteOf; rw [BitVec.toNat_ushiftRight]
attribute [irreducible] bst
attribute [simp] xor_byte wn_byte bst_size bst_append bst_lit lit_bst bst_extract
end Go.Proofs.Ytmmcjcaccicheaa

/- The words of SHA-256: rotations, in the program and in the reference. No condition. -/
import Derived.Test.YtmmcjcaccicheaaTfSha
import Derived.Test.YtmmcjcaccicheaaRegion
namespace Go.Proofs.Ytmmcjcaccicheaa
open Go.RowKit

theorem wrap_word (x : W32) : IntKind.u32.wrap (x.toNat : Int) = x.toNat := by rw [wrap32, ofInt_toNat]
theorem rot_amount : ∀ n : Nat, n < 32 → 0 < n → bits BinOp.and IntKind.u64 (IntKind.u64.wrap (-(n : Int))) 31 = ((32 - n : Nat) : Int) := by decide
theorem shl_word (x : W32) (n : Nat) : IntKind.u32.wrap (wn x * 2 ^ n) = wn (x <<< n) := shl32 x n
theorem shr_word (x : W32) (n : Nat) : wn x / 2 ^ n = wn (x >>> n) := by unfold wn; rw [← shr32, Int.fdiv_eq_ediv_of_nonneg _ (Int.le_of_lt (Int.pow_pos (by decide)))]
theorem and_word (x y : W32) : bits .and .u32 (wn x) (wn y) = wn (x &&& y) := by show IntKind.u32.wrap ((BitVec.ofInt 32 x.toNat &&& BitVec.ofInt 32 y.toNat : W32).toNat : Int) = _; rw [ofInt_toNat, ofInt_toNat]; exact wrap_word _
theorem or_word (x y : W32) : bits .or .u32 (wn x) (wn y) = wn (x ||| y) := by show IntKind.u32.wrap ((BitVec.ofInt 32 x.toNat ||| BitVec.ofInt 32 y.toNat : W32).toNat : Int) = _; rw [ofInt_toNat, ofInt_toNat]; exact wrap_word _
theorem xor_word (x y : W32) : bits .xor .u32 (wn x) (wn y) = wn (x ^^^ y) := by show IntKind.u32.wrap ((BitVec.ofInt 32 x.toNat ^^^ BitVec.ofInt 32 y.toNat : W32).toNat : Int) = _; rw [ofInt_toNat, ofInt_toNat]; exact wrap_word _
theorem mod_word (n : Int) : n % (4294967296 : Int) = IntKind.u32.wrap n := rfl
theorem shl_mod (x : W32) (n : Nat) : wn x * 2 ^ n % (4294967296 : Int) = wn (x <<< n) := by rw [mod_word]; exact shl32 x n
theorem add_mod (x y : W32) : (wn x + wn y) % (4294967296 : Int) = wn (x + y) := by rw [mod_word]; exact add32 x y
theorem wn_mod (x : W32) : wn x % (4294967296 : Int) = wn x := by rw [mod_word]; exact wrap_word x
theorem not_word (x : W32) : bits .xor .u32 4294967295 (wn x) = wn (~~~x) := by
  show IntKind.u32.wrap ((BitVec.ofInt 32 4294967295 ^^^ BitVec.ofInt 32 x.toNat : W32).toNat : Int) = _
  rw [ofInt_toNat, wrap_word, show BitVec.ofInt 32 4294967295 = BitVec.allOnes 32 by decide, BitVec.allOnes_xor]; rfl
theorem not_word2 (x : W32) : bits .xor .u32 (if IntKind.u32.signed = true then -1 else IntKind.u32.max) (wn x) = wn (~~~x) := not_word x
theorem not_word3 (x : W32) : bits .xor .u32 IntKind.u32.max (wn x) = wn (~~~x) := not_word x
theorem wn_nonneg (x : W32) : 0 ≤ wn x := Int.natCast_nonneg _
theorem wn_lt (x : W32) : wn x < 4294967296 := by unfold wn; have := x.isLt; omega
theorem shl24 (y : W32) : wn y * (16777216 : Int) % (4294967296 : Int) = wn (y <<< 24) := shl_mod y 24
theorem shl16 (y : W32) : wn y * (65536 : Int) % (4294967296 : Int) = wn (y <<< 16) := shl_mod y 16
theorem shl8 (y : W32) : wn y * (256 : Int) % (4294967296 : Int) = wn (y <<< 8) := shl_mod y 8
theorem shr10 (y : W32) : wn y / (1024 : Int) = wn (y >>> 10) := shr_word y 10
theorem shr3 (y : W32) : wn y / (8 : Int) = wn (y >>> 3) := shr_word y 3
/-- A byte as a word. -/
def bw (x : UInt8) : W32 := BitVec.ofNat 32 x.toNat
theorem byte_word (x : UInt8) : (x.toNat : Int) % (4294967296 : Int) = wn (bw x) := by
  unfold bw wn; rw [BitVec.toNat_ofNat]; omega
theorem wrap_i (n : Int) (h1 : -9223372036854775808 ≤ n := by omega) (h2 : n ≤ 9223372036854775807 := by omega) : IntKind.i64.wrap n = n := IntWalk.i64_in _ ⟨h1, h2⟩
theorem add_word (x y : W32) : IntKind.u32.wrap (wn x + wn y) = wn (x + y) := add32 x y
attribute [simp] add_word shl_word shr_word and_word or_word xor_word shl_mod add_mod wn_mod not_word not_word2 not_word3 shl24 shl16 shl8 shr10 shr3 byte_word
theorem right_is (x : W32) (n : Nat) (h0 : 0 < n) (h : n < 32) (w : World) :
    Calls Try.prog 59 #[wv x, .int .i64 n] w fun e w' => e = .returned (wv (rotV x n)) ∧ w' = w := by
  unfold wv
  have hb := rot_amount n h h0
  go_enter Try.func59, Try.ntmps59
  go_wp2
  go_ret
  refine ⟨?_, rfl⟩
  rw [show 32 - (32 - n) = n by omega, rot_or]
  rfl
theorem rotate_is (x : W32) (n : Nat) (h : n < 32) (w : World) :
    Calls Try.prog 46 #[wv x, .int .u64 n] w fun e w' => e = .returned (wv (rotV x n)) ∧ w' = w := by
  unfold wv
  go_enter Try.func46, Try.ntmps46
  go_wp2
  go_ret
  exact ⟨rfl, rfl⟩
/-- The same with a literal amount. -/
theorem rotate_q (x : W32) (k : Int) (n : Nat) (hk : k = n) (h : n < 32) (w : World) :
    Calls Try.prog 46 #[.int .u32 (wn x), .int .u64 k] w fun e w' => e = .returned (.int .u32 (wn (rotV x n))) ∧ w' = w := by
  subst hk; exact rotate_is x n h w
theorem right_q (x : W32) (k : Int) (n : Nat) (hk : k = n) (h0 : 0 < n) (h : n < 32) (w : World) :
    Calls Try.prog 59 #[.int .u32 (wn x), .int .i64 k] w fun e w' => e = .returned (.int .u32 (wn (rotV x n))) ∧ w' = w := by
  subst hk; exact right_is x n h0 h w
end Go.Proofs.Ytmmcjcaccicheaa

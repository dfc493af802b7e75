/- SHA-256 as a plain function. No condition. -/
import Derived.Test.YtmmcjcaccicheaaTfPlain
namespace Go.Proofs.Ytmmcjcaccicheaa

abbrev W32 := BitVec 32
def rotV (x : W32) (n : Nat) : W32 := x >>> n ||| x <<< (32 - n)
/-- The constants. -/
def constL : List Nat := [
  0x428a2f98, 0x71374491, 0xb5c0fbcf, 0xe9b5dba5, 0x3956c25b, 0x59f111f1, 0x923f82a4, 0xab1c5ed5,
  0xd807aa98, 0x12835b01, 0x243185be, 0x550c7dc3, 0x72be5d74, 0x80deb1fe, 0x9bdc06a7, 0xc19bf174,
  0xe49b69c1, 0xefbe4786, 0x0fc19dc6, 0x240ca1cc, 0x2de92c6f, 0x4a7484aa, 0x5cb0a9dc, 0x76f988da,
  0x983e5152, 0xa831c66d, 0xb00327c8, 0xbf597fc7, 0xc6e00bf3, 0xd5a79147, 0x06ca6351, 0x14292967,
  0x27b70a85, 0x2e1b2138, 0x4d2c6dfc, 0x53380d13, 0x650a7354, 0x766a0abb, 0x81c2c92e, 0x92722c85,
  0xa2bfe8a1, 0xa81a664b, 0xc24b8b70, 0xc76c51a3, 0xd192e819, 0xd6990624, 0xf40e3585, 0x106aa070,
  0x19a4c116, 0x1e376c08, 0x2748774c, 0x34b0bcb5, 0x391c0cb3, 0x4ed8aa4a, 0x5b9cca4f, 0x682e6ff3,
  0x748f82ee, 0x78a5636f, 0x84c87814, 0x8cc70208, 0x90befffa, 0xa4506ceb, 0xbef9a3f7, 0xc67178f2]
def constV (t : Nat) : W32 := BitVec.ofNat 32 (constL.getD t 0)
/-- A state: eight words. -/
structure V8 where
  a : W32
  b : W32
  c : W32
  d : W32
  e : W32
  f : W32
  g : W32
  h : W32
def initV : V8 := ⟨0x6a09e667, 0xbb67ae85, 0x3c6ef372, 0xa54ff53a, 0x510e527f, 0x9b05688c, 0x1f83d9ab, 0x5be0cd19⟩
/-- Word t of a block. -/
def by32 (b : Bs) (i : Nat) : W32 := BitVec.ofNat 32 (b.getD i 0).toNat
def blkV (b : Bs) (t : Nat) : W32 := ((by32 b (4 * t) <<< 24 ||| by32 b (4 * t + 1) <<< 16) ||| by32 b (4 * t + 2) <<< 8) ||| by32 b (4 * t + 3)
def nextW (b : Bs) (l : List W32) (t : Nat) : W32 :=
  if t < 16 then blkV b t else
    let x := l.getD (t - 15) 0
    let y := l.getD (t - 2) 0
    ((((rotV y 17 ^^^ rotV y 19) ^^^ y >>> 10) + l.getD (t - 7) 0) + ((rotV x 7 ^^^ rotV x 18) ^^^ x >>> 3)) + l.getD (t - 16) 0
/-- The first words of the schedule. -/
def schedV (b : Bs) : Nat → List W32
  | 0 => []
  | t + 1 => schedV b t ++ [nextW b (schedV b t) t]
theorem schedV_len (b : Bs) : ∀ t, (schedV b t).length = t
  | 0 => rfl
  | t + 1 => by rw [schedV, List.length_append, schedV_len b t]; rfl
def t1V (v : V8) (k w : W32) : W32 := (((v.h + ((rotV v.e 6 ^^^ rotV v.e 11) ^^^ rotV v.e 25)) + (v.e &&& v.f ^^^ ~~~v.e &&& v.g)) + k) + w
def t2V (v : V8) : W32 := ((rotV v.a 2 ^^^ rotV v.a 13) ^^^ rotV v.a 22) + ((v.a &&& v.b ^^^ v.a &&& v.c) ^^^ v.b &&& v.c)
def stepV (v : V8) (k w : W32) : V8 := ⟨t1V v k w + t2V v, v.a, v.b, v.c, v.d + t1V v k w, v.e, v.f, v.g⟩
def roundsV (s : V8) (l : List W32) : Nat → V8
  | 0 => s
  | t + 1 => stepV (roundsV s l t) (constV t) (l.getD t 0)
def addV (s v : V8) : V8 := ⟨s.a + v.a, s.b + v.b, s.c + v.c, s.d + v.d, s.e + v.e, s.f + v.f, s.g + v.g, s.h + v.h⟩
def comprV (s : V8) (b : Bs) : V8 := addV s (roundsV s (schedV b 64) 64)
/-- The last eight bytes of the padded message. -/
def lenB (n : Nat) : Bs := [56, 48, 40, 32, 24, 16, 8, 0].map fun i => UInt8.ofNat ((n * 8) >>> i)
def padV (s : Bs) : Bs := s ++ (128 :: (List.replicate ((120 - (s.length + 1) % 64) % 64) 0 ++ lenB s.length))
def blockV (m : Bs) (i : Nat) : Bs := (m.drop (64 * i)).take 64
def foldV (m : Bs) : Nat → V8
  | 0 => initV
  | i + 1 => comprV (foldV m i) (blockV m i)
def V8.list (v : V8) : List W32 := [v.a, v.b, v.c, v.d, v.e, v.f, v.g, v.h]
def byteOf (x : W32) (k : Nat) : UInt8 := UInt8.ofNat (x.toNat >>> (24 - 8 * k))
def bytesV (v : V8) : Bs := v.list.flatMap fun x => [byteOf x 0, byteOf x 1, byteOf x 2, byteOf x 3]
def sumV (s : Bs) : Bs := bytesV (foldV (padV s) ((padV s).length / 64))
theorem sumV_len (s : Bs) : (sumV s).length = 32 := rfl
def keyV (k : Bs) : Bs := let k' := if 64 < k.length then sumV k else k; k' ++ List.replicate (64 - k'.length) 0
def maskV (x : UInt8) (k : Bs) : Bs := k.map (· ^^^ x)
def hmacV (k s : Bs) : Bs := sumV (maskV 0x5c (keyV k) ++ sumV (maskV 0x36 (keyV k) ++ s))
theorem hmacV_len (k s : Bs) : (hmacV k s).length = 32 := rfl
theorem pad_mod (s : Bs) : (padV s).length % 64 = 0 := by
  unfold padV lenB
  simp only [List.length_append, List.length_cons, List.length_replicate, List.length_map, List.length_nil]
  omega

theorem pad_len (s : Bs) : (padV s).length = 64 * ((s.length + 72) / 64) := by
  unfold padV lenB
  simp only [List.length_append, List.length_cons, List.length_replicate, List.length_map, List.length_nil]
  omega
/-- How many bytes 00 are put in. -/
def zerosN (n : Nat) : Nat := (120 - (n + 1) % 64) % 64
/-- What lies behind the whole blocks of the message. -/
def lastV (s : Bs) : Bs := s.drop (s.length / 64 * 64) ++ (128 :: (List.replicate (zerosN s.length) 0 ++ lenB s.length))
theorem pad_drop (s : Bs) : (padV s).drop (s.length / 64 * 64) = lastV s := by
  unfold padV lastV zerosN
  rw [List.drop_append_of_le_length (by omega)]
theorem block_low (s : Bs) {i : Nat} (h : i < s.length / 64) : blockV (padV s) i = (s.drop (64 * i)).take 64 := by
  unfold blockV padV
  rw [List.drop_append_of_le_length (by omega), List.take_append_of_le_length (by rw [List.length_drop]; omega)]
theorem block_high (s : Bs) (j : Nat) : blockV (padV s) (s.length / 64 + j) = blockV (lastV s) j := by
  unfold blockV
  rw [← pad_drop, List.drop_drop]
  congr 2
  omega
theorem last_len (s : Bs) : (lastV s).length = 64 * ((s.length + 72) / 64 - s.length / 64) := by
  rw [← pad_drop, List.length_drop, pad_len]; omega
theorem block_len (m : Bs) {i : Nat} (h : 64 * (i + 1) ≤ m.length) : (blockV m i).length = 64 := by
  unfold blockV
  rw [List.length_take, List.length_drop]; omega
/-- The blocks that are yielded. -/
def blocksV (s : Bs) : List Bs := (List.range ((s.length + 72) / 64)).map (blockV (padV s))
theorem fold_blocks (m : Bs) : ∀ n, foldV m n = ((List.range n).map (blockV m)).foldl comprV initV
  | 0 => rfl
  | n + 1 => by rw [foldV, List.range_succ, List.map_append, List.foldl_append, ← fold_blocks m n]; rfl
theorem sum_blocks (s : Bs) : sumV s = bytesV ((blocksV s).foldl comprV initV) := by
  unfold sumV blocksV
  rw [fold_blocks, pad_len, Nat.mul_div_cancel_left _ (by omega)]

/-- A word in memory or in a slot. -/
def wn (x : W32) : Int := (x.toNat : Int)
def wv (x : W32) : Value := .int .u32 (wn x)
theorem wrap32 (n : Int) : IntKind.u32.wrap n = ((BitVec.ofInt 32 n).toNat : Int) := by
  rw [BitVec.toNat_ofInt, Int.toNat_of_nonneg (Int.emod_nonneg _ (by decide))]
  rfl
theorem ofInt_toNat (x : W32) : BitVec.ofInt 32 (x.toNat : Int) = x := by
  apply BitVec.eq_of_toNat_eq
  rw [BitVec.toNat_ofInt]
  have := x.isLt
  omega
theorem add32 (x y : W32) : IntKind.u32.wrap ((x.toNat : Int) + y.toNat) = ((x + y).toNat : Int) := by
  rw [wrap32]
  refine congrArg Nat.cast ?_
  rw [BitVec.toNat_ofInt, BitVec.toNat_add]
  omega
theorem shl32 (x : W32) (n : Nat) : IntKind.u32.wrap ((x.toNat : Int) * 2 ^ n) = ((x <<< n).toNat : Int) := by
  rw [wrap32]
  refine congrArg Nat.cast ?_
  rw [BitVec.toNat_ofInt, BitVec.toNat_shiftLeft, Nat.shiftLeft_eq]
  rw [show ((x.toNat : Int) * 2 ^ n) = ((x.toNat * 2 ^ n : Nat) : Int) by rw [Int.natCast_mul, Int.natCast_pow]; rfl]
  omega
theorem shr32 (x : W32) (n : Nat) : (x.toNat : Int).fdiv (2 ^ n) = ((x >>> n).toNat : Int) := by
  rw [BitVec.toNat_ushiftRight, Nat.shiftRight_eq_div_pow]
  rw [show ((2 : Int) ^ n) = ((2 ^ n : Nat) : Int) by rw [Int.natCast_pow]; rfl, Int.fdiv_eq_ediv_of_nonneg _ (Int.natCast_nonneg _)]
  rfl
/-- The rotation of math/bits is that of the reference. -/
theorem rot_or (x : W32) (n : Nat) : x <<< (32 - n) ||| x >>> n = rotV x n := by unfold rotV; rw [BitVec.or_comm]
/-- Four bytes one behind the other are a word. -/
theorem word4 (a b c d : W32) : (((((((0 : W32) <<< 8 ||| a) <<< 8 ||| b) <<< 8) ||| c) <<< 8) ||| d) = ((a <<< 24 ||| b <<< 16) ||| c <<< 8) ||| d := by
  have h : ∀ x y : W32, ∀ n : Nat, (x ||| y) <<< n = x <<< n ||| y <<< n := fun x y n => BitVec.shiftLeft_or_distrib x y n
  have z : (0 : W32) <<< 8 = 0 := rfl
  have z2 : (0 : W32) ||| a = a := BitVec.zero_or
  rw [z, z2]
  simp only [h, ← BitVec.shiftLeft_add]
end Go.Proofs.Ytmmcjcaccicheaa

/- Contracts: Check, of myers and of the reference. -/
import Derived.Test.YtmmppfopokbcfaaReverse
import Derived.Test.YtmmppfopokbcfaaMyDefs
namespace Go.Proofs.Ytmmppfopokbcfaa
open Go.RowKit

theorem w64_in {x : Int} (h1 : -9223372036854775808 ≤ x) (h2 : x ≤ 9223372036854775807) : wrap64 x = x := by unfold wrap64; omega
theorem wrap_in {x : Int} (h1 : -9223372036854775808 ≤ x) (h2 : x ≤ 9223372036854775807) : IntKind.i64.wrap x = x := IntWalk.i64_in _ ⟨h1, h2⟩

/-- The error of one match behind (x, y). -/
def codeV (a b : Lns) (x y : Int) (m : Mt) : Int :=
  if m.n < 1 then 1
  else if m.a < 0 ∨ m.b < 0 ∨ (a.length : Int) - m.n < m.a ∨ (b.length : Int) - m.n < m.b then 2
  else if m.a < x ∨ m.b < y ∨ (m.a = x ∧ m.b = y) then 9
  else if (a.drop m.a.toNat).take m.n.toNat = (b.drop m.b.toNat).take m.n.toNat then 0 else 10
def checkV (a b : Lns) : Int → Int → List Mt → Int
  | _, _, [] => 0
  | x, y, m :: r => if codeV a b x y m = 0 then checkV a b (m.a + m.n) (m.b + m.n) r else codeV a b x y m

theorem checkV_bad {a b : Lns} {x y c : Int} {m : Mt} {r : List Mt} (h : codeV a b x y m = c) (hc : c ≠ 0) : checkV a b x y (m :: r) = c := by
  rw [checkV, h, if_neg hc]
theorem checkV_good {a b : Lns} {x y : Int} {m : Mt} {r : List Mt} (h : codeV a b x y m = 0) : checkV a b x y (m :: r) = checkV a b (m.a + m.n) (m.b + m.n) r := by
  rw [checkV, if_pos h]

end Go.Proofs.Ytmmppfopokbcfaa

/- Digests compared. No condition. -/
import Derived.Test.YtmmcjcaccicheaaTfBsl
import Derived.Stop.BytesEq
namespace Go.Proofs.Ytmmcjcaccicheaa
open Go.RowKit
theorem eqg_dg (x y : Operand) (a b : Bs) (w : World) : (eqGuard .eql 34 x y (dv a) (dv b)).run Try.prog w = .ok () w := by
  have h : Try.prog.eqGuardType Try.prog.depth 34 = false := by kernel_rfl
  have hp : ∀ w, Sem.run Try.prog (Sem.program Sem.pure) w = .ok Try.prog w := fun _ => rfl
  unfold eqGuard dv
  simp [Sem.run_bind, program, h, hp, Result.andThen, go_sem]
theorem eql_dg {a b : Bs} (ha : a.length = 32) (hb : b.length = 32) (w : World) : (binOp .eql 34 (dv a) (dv b)).run Try.prog w = .ok (.bool (a == b)) w :=
  run_eql_bytes w 34 5 32 uDg Try.underlying5 (fun w => Try.sizeOf5 w) a b ha hb
attribute [simp] eqg_dg
end Go.Proofs.Ytmmcjcaccicheaa

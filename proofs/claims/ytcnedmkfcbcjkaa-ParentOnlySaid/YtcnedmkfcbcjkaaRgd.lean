/- WHAT IS LEFT OF FUNCTIONS' CODE when the evaluator has read it. Printed by a tool of this claim's writer; each line is checked. -/
import Derived.Test.YtcnedmkfcbcjkaaHm
namespace Go.Proofs.Ytcnedmkfcbcjkaa.Ra
open Go Go.Proofs.Try
set_option linter.unusedVariables false
noncomputable def ct_IndexFunc_none : CT := look []
noncomputable def G_IndexFunc_none_0  : Option (D) := loopIn tt vv ct_IndexFunc_none A_IndexFunc_none Try.f93 [1, 0, 1, 0] 0 (kPure tt Try.f93)
  {
  tmps :=
    [V.d (D.sl []), V.d D.any, V.d D.any, V.d D.any, V.d D.any, V.d D.any, V.d D.any, V.d (D.int IntKind.i64 0), V.d (D.int IntKind.i64 0), V.d D.any, V.d D.any, V.d D.any,
      V.d D.any, V.d D.any, V.d D.any, V.d D.any, V.d D.any, V.d D.any, V.d D.any],
  boxes := [], toks := [] }
noncomputable def F_IndexFunc_none : List D → Option (D) := evPure tt vv ct_IndexFunc_none A_IndexFunc_none Try.f93
theorem ok_IndexFunc_none : OkPure prog 93 F_IndexFunc_none := okPure' mixed tt_ok vv_ok ct_nil (by kernel_rfl) (by kernel_rfl) (by kernel_rfl)
theorem F_IndexFunc_none_eq  : F_IndexFunc_none [D.sl [], D.any] =
  G_IndexFunc_none_0 := by kernel_rfl
theorem G_IndexFunc_none_0_eq  : G_IndexFunc_none_0  =
  some (D.int IntKind.i64 (-1)) := (loopIn_eq ..).trans (by kernel_rfl)
end Go.Proofs.Ytcnedmkfcbcjkaa.Ra

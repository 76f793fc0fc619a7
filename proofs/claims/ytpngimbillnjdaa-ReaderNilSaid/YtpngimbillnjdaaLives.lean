/- The functions 'lives' of layers 8 and 17 return true, and change nothing that was there. No conditions. -/
import Derived.Test.YtpngimbillnjdaaAmF
import Derived.Test.YtpngimbillnjdaaChecked
import Derived.KernelRfl
namespace Go.Proofs.Ytpngimbillnjdaa
open Go Go.Am Go.RowKit

theorem good : Go.Am.Good Try.prog := ⟨by kernel_rfl, by kernel_rfl⟩
theorem laidOut : laidOutB Try.prog = true := by kernel_rfl

theorem lives08_calls (w : World) : Calls Try.prog 13 #[] w fun e w' => e = .returned (.bool true) ∧ Below w.heap.size w w' :=
  calls_true good extNone_ok (n := 300) (by kernel_rfl) w
theorem lives17_calls (w : World) : Calls Try.prog 30 #[] w fun e w' => e = .returned (.bool true) ∧ Below w.heap.size w w' :=
  calls_true good extNone_ok (n := 1000) (by kernel_rfl) w

def X17 : Ext := extOne 30 (sumConst (.bool true))
theorem X17_ok : ExtOk Try.prog X17 := extConst_ok ⟨Try.f30, Try.func30, by kernel_rfl, by kernel_rfl⟩ rfl lives17_calls
def X08 : Ext := extOne 13 (sumConst (.bool true))
theorem X08_ok : ExtOk Try.prog X08 := extConst_ok ⟨Try.f13, Try.func13, by kernel_rfl, by kernel_rfl⟩ rfl lives08_calls
end Go.Proofs.Ytpngimbillnjdaa

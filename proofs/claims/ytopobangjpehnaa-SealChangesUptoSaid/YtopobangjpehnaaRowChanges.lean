/- The statement SealChangesUptoSaid: for every input of bulk at most 1048576 the law returns true, and its arguments read behind the call as before. -/
import Derived.Test.YtopobangjpehnaaLiftChanges
import Derived.Test.YtopobangjpehnaaFactsChanges
namespace Go.Proofs.Ytopobangjpehnaa.sealChanges
open Go.ChangeShapes Go.WideShapes Go.ChangeAt Go.RowKit
set_option linter.unusedVariables false
theorem over : Rows.SealChangesUptoSaid :=
  OpenClaim.holds_of_cond 7 Try.f7 rfl rfl rfl rfl rfl rfl rfl ⟨rfl, rfl, rfl, rfl, rfl⟩ rfl rfl rfl rfl rfl (by kernel_rfl) Try.func7 facts
    (of_decide_eq_true (by kernel_rfl)) (by unfold Func.isWrapper; first | (rw [if_pos (by decide +kernel)]; kernel_rfl) | (rw [if_neg (by decide +kernel)]; exact ⟨rfl, rfl⟩))
    (fun os started H enc _ F => lifted os started H enc F)
end Go.Proofs.Ytopobangjpehnaa.sealChanges
namespace Go.Proofs.Ytopobangjpehnaa
/-- The row, under a short name, for the claim. -/
theorem sealChangesUpto_holds : Rows.SealChangesUptoSaid := sealChanges.over
end Go.Proofs.Ytopobangjpehnaa
#print axioms Go.Proofs.Ytopobangjpehnaa.sealChangesUpto_holds

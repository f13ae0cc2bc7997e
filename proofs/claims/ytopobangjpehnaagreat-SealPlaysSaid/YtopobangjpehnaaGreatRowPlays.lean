/- The statement SealPlaysSaid: for every input the law returns true, and its arguments read behind the call as before. No condition. -/
import Derived.Test.YtopobangjpehnaaGreatLiftPlays
import Derived.Test.YtopobangjpehnaaGreatFactsPlays
namespace Go.Proofs.YtopobangjpehnaaGreat.sealPlays
open Go.ChangeShapes Go.WideShapes Go.ChangeAt Go.RowKit
set_option linter.unusedVariables false
theorem over : Rows.sealPlaysRow.holds Tryz.pinned (OpenSpec.ofChange Rows.sealPlaysSpec) :=
  OpenClaim.holds_of_wide 3 Tryz.f3 rfl rfl rfl rfl rfl rfl rfl ⟨rfl, rfl, rfl, rfl, rfl⟩ rfl rfl rfl rfl rfl (by kernel_rfl) Tryz.func3 facts
    (of_decide_eq_true (by kernel_rfl)) (by unfold Func.isWrapper; first | (rw [if_pos (by decide +kernel)]; kernel_rfl) | (rw [if_neg (by decide +kernel)]; exact ⟨rfl, rfl⟩))
    (fun os started H enc _ => lifted os started H enc)
end Go.Proofs.YtopobangjpehnaaGreat.sealPlays
namespace Go.Proofs.YtopobangjpehnaaGreat
/-- The row, under a short name, for the claim. -/
theorem sealPlays_holds : Rows.SealPlaysSaid := sealPlays.over
end Go.Proofs.YtopobangjpehnaaGreat
#print axioms Go.Proofs.YtopobangjpehnaaGreat.sealPlays_holds

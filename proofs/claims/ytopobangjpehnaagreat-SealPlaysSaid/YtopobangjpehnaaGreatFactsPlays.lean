/- SealPlays: the facts of the program's form that the row wants, evaluated one by one, in a text of their own (together they take too much memory). -/
import Derived.Test.YtopobangjpehnaaGreatRows
import Derived.JoinedCond
namespace Go.Proofs.YtopobangjpehnaaGreat.sealPlays
theorem both {a b : Bool} (h : a = true) (h' : b = true) : (a && b) = true := by rw [h, h']; rfl
set_option maxHeartbeats 0 in
theorem facts : joinedFacts Tryz.pinned.checked.prog 3 Tryz.f3 Rows.sealPlaysSpec Rows.sealPlaysRow = true := by
  unfold joinedFacts
  repeat' with_reducible refine both ?_ ?_
  all_goals as_aux_lemma => kernel_rfl
end Go.Proofs.YtopobangjpehnaaGreat.sealPlays

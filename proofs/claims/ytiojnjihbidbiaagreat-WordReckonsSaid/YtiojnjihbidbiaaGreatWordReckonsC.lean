/- The closed facts of WordReckons's row. -/
import Derived.Test.YtiojnjihbidbiaaGreatRows
import Derived.ProofKit
namespace Go.Proofs.YtiojnjihbidbiaaGreat.wordReckonsRow
set_option maxHeartbeats 40000000 in
theorem closed : joinedFacts Tryz.pinned.checked.prog 6 Tryz.f6 Rows.wordReckonsSpec Rows.wordReckonsRow = true := by
  unfold joinedFacts
  simp only [Bool.and_eq_true]
  and_intros
  all_goals as_aux_lemma => kernel_rfl
end Go.Proofs.YtiojnjihbidbiaaGreat.wordReckonsRow

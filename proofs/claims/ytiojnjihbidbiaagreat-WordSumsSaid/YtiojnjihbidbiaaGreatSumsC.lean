/- The closed facts of WordSums' row. -/
import Derived.Test.YtiojnjihbidbiaaGreatRows
import Derived.ProofKit
namespace Go.Proofs.YtiojnjihbidbiaaGreat.wordSumsRow
set_option maxHeartbeats 40000000 in
theorem closed : joinedFacts Tryz.pinned.checked.prog 3 Tryz.f3 Rows.wordSumsSpec Rows.wordSumsRow = true := by
  unfold joinedFacts
  simp only [Bool.and_eq_true]
  and_intros
  all_goals as_aux_lemma => kernel_rfl
end Go.Proofs.YtiojnjihbidbiaaGreat.wordSumsRow

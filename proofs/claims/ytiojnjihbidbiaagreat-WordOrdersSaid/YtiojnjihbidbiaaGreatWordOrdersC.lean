/- The closed facts of WordOrders's row. -/
import Derived.Test.YtiojnjihbidbiaaGreatRows
import Derived.ProofKit
namespace Go.Proofs.YtiojnjihbidbiaaGreat.wordOrdersRow
set_option maxHeartbeats 40000000 in
theorem closed : joinedFacts Tryz.pinned.checked.prog 5 Tryz.f5 Rows.wordOrdersSpec Rows.wordOrdersRow = true := by
  unfold joinedFacts
  simp only [Bool.and_eq_true]
  and_intros
  all_goals as_aux_lemma => kernel_rfl
end Go.Proofs.YtiojnjihbidbiaaGreat.wordOrdersRow

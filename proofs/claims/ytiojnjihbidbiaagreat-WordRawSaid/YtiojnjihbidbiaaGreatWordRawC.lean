/- The closed facts of WordRaw's row. -/
import Derived.Test.YtiojnjihbidbiaaGreatRows
import Derived.ProofKit
namespace Go.Proofs.YtiojnjihbidbiaaGreat.wordRawRow
set_option maxHeartbeats 40000000 in
theorem closed : joinedFacts Tryz.pinned.checked.prog 4 Tryz.f4 Rows.wordRawSpec Rows.wordRawRow = true := by
  unfold joinedFacts
  simp only [Bool.and_eq_true]
  and_intros
  all_goals as_aux_lemma => kernel_rfl
end Go.Proofs.YtiojnjihbidbiaaGreat.wordRawRow

/- order, walked: the order in which each variable lies at its own level. -/
import Derived.Test.YtiojnjihbidbiaaGreatBaseD
namespace Go.Proofs.YtiojnjihbidbiaaGreat
open Go.RowKit
attribute [local go_sem ↓] Go.wp_at_zero Go.wp_at_succ
set_option linter.unusedVariables false

/-- The order's cells where k variables have been laid. -/
def ordC (n k : Nat) : Array Value :=
  #[.int .i64 (n : Int), .int .i64 (ordV k 0), .int .i64 (ordV k 1), .int .i64 (ordV k 2), .int .i64 (ordV k 3), .int .i64 (ordV k 4), .int .i64 (ordV k 5), .int .i64 (ordV k 6), .int .i64 (ordV k 7),
    .int .i64 (ordV k 0), .int .i64 (ordV k 1), .int .i64 (ordV k 2), .int .i64 (ordV k 3), .int .i64 (ordV k 4), .int .i64 (ordV k 5), .int .i64 (ordV k 6), .int .i64 (ordV k 7)]

theorem ordC_next (n : Nat) : ∀ k, k < 8 → ((ordC n k).set! (1 + k) (.int .i64 (k : Int))).set! (9 + k) (.int .i64 (k : Int)) = ordC n (k + 1)
  | 0, _ => rfl | 1, _ => rfl | 2, _ => rfl | 3, _ => rfl | 4, _ => rfl | 5, _ => rfl | 6, _ => rfl | 7, _ => rfl
  | k + 8, h => absurd h (by omega)

theorem ocopy_any (b n : Nat) (w : World) (h : Blk w b (ordCells n) 206) :
    Calls Tryz.prog 166 #[.pointer (some ⟨b, 0, none⟩)] w fun e w' => ∃ b', e = .returned (.pointer (some ⟨b', 0, none⟩)) ∧ Blk w' b' (ordCells n) 206 ∧ Fr [] w w' ∧ w.heap.size ≤ b' := by
  have cs : ∀ (o : Nat) (v : Value), (ordCells n)[o]? = some v → w.cell? ⟨b, o, none⟩ = some v := fun o v e => h.cell o e
  have q0 := cs 0 (.int .i64 (n : Int)) rfl
  have q1 := cs 1 (.int .i64 (ordV n 0)) rfl
  have q2 := cs 2 (.int .i64 (ordV n 1)) rfl
  have q3 := cs 3 (.int .i64 (ordV n 2)) rfl
  have q4 := cs 4 (.int .i64 (ordV n 3)) rfl
  have q5 := cs 5 (.int .i64 (ordV n 4)) rfl
  have q6 := cs 6 (.int .i64 (ordV n 5)) rfl
  have q7 := cs 7 (.int .i64 (ordV n 6)) rfl
  have q8 := cs 8 (.int .i64 (ordV n 7)) rfl
  have q9 := cs 9 (.int .i64 (ordV n 0)) rfl
  have q10 := cs 10 (.int .i64 (ordV n 1)) rfl
  have q11 := cs 11 (.int .i64 (ordV n 2)) rfl
  have q12 := cs 12 (.int .i64 (ordV n 3)) rfl
  have q13 := cs 13 (.int .i64 (ordV n 4)) rfl
  have q14 := cs 14 (.int .i64 (ordV n 5)) rfl
  have q15 := cs 15 (.int .i64 (ordV n 6)) rfl
  have q16 := cs 16 (.int .i64 (ordV n 7)) rfl
  clear cs
  have hN := Blk.new w (ordCells n) 206
  have hN' := Lib.hid hN
  clear hN
  go_enter Tryz.func166, Tryz.ntmps166
  go_wp2
  go_ret
  exact ⟨_, rfl, hN'.out, (Fr.refl [] w).alloc _, Nat.le_refl _⟩

end Go.Proofs.YtiojnjihbidbiaaGreat

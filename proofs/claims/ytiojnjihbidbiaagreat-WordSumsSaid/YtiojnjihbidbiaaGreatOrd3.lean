/- order.New, walked. -/
import Derived.Test.YtiojnjihbidbiaaGreatOrd2
namespace Go.Proofs.YtiojnjihbidbiaaGreat
open Go.RowKit
attribute [local go_sem ↓] Go.wp_at_zero Go.wp_at_succ
attribute [local go_sem ↓] run_min run_max
set_option linter.unusedVariables false

theorem ordC_next2 (n : Nat) : ∀ k, k < 8 → ((ordC n k).setIfInBounds (1 + k) (.int .i64 (k : Int))).setIfInBounds (9 + k) (.int .i64 (k : Int)) = ordC n (k + 1)
  | 0, _ => rfl | 1, _ => rfl | 2, _ => rfl | 3, _ => rfl | 4, _ => rfl | 5, _ => rfl | 6, _ => rfl | 7, _ => rfl
  | k + 8, h => absurd h (by omega)
theorem ordC_next3 (n : Nat) : ∀ k, k < 8 → ((ordC n k).setIfInBounds (9 + k) (.int .i64 (k : Int))).setIfInBounds (1 + k) (.int .i64 (k : Int)) = ordC n (k + 1)
  | 0, _ => rfl | 1, _ => rfl | 2, _ => rfl | 3, _ => rfl | 4, _ => rfl | 5, _ => rfl | 6, _ => rfl | 7, _ => rfl
  | k + 8, h => absurd h (by omega)
theorem ordC_at (n : Nat) : ∀ k, k < 8 → (ordC n k)[1 + k]? = some (.int .i64 0) ∧ (ordC n k)[9 + k]? = some (.int .i64 0)
  | 0, _ => ⟨rfl, rfl⟩ | 1, _ => ⟨rfl, rfl⟩ | 2, _ => ⟨rfl, rfl⟩ | 3, _ => ⟨rfl, rfl⟩ | 4, _ => ⟨rfl, rfl⟩ | 5, _ => ⟨rfl, rfl⟩ | 6, _ => ⟨rfl, rfl⟩ | 7, _ => ⟨rfl, rfl⟩
  | k + 8, h => absurd h (by omega)

def OrdRel (n b : Nat) (w : World) (k : Nat) (wr : World) : Prop := Blk wr b (ordC n k) 206 ∧ Fr [] w wr ∧ w.heap.size ≤ b

theorem OrdRel.next {n b k : Nat} {w wr : World} (h : OrdRel n b w k wr) (hk : k < 8) : OrdRel n b w (k + 1) ((wr.setCell ⟨b, 1 + k, none⟩ (.int .i64 (k : Int))).setCell ⟨b, 9 + k, none⟩ (.int .i64 (k : Int))) := by
  obtain ⟨h1, h2, h3⟩ := h
  refine ⟨?_, (h2.setCell _ (.inr h3)).setCell _ (.inr h3), h3⟩
  have := (h1.set (1 + k) (.int .i64 (k : Int))).set (9 + k) (.int .i64 (k : Int))
  rw [ordC_next2 n k hk] at this; exact this
theorem OrdRel.next' {n b k : Nat} {w wr : World} (h : OrdRel n b w k wr) (hk : k < 8) : OrdRel n b w (k + 1) ((wr.setCell ⟨b, 9 + k, none⟩ (.int .i64 (k : Int))).setCell ⟨b, 1 + k, none⟩ (.int .i64 (k : Int))) := by
  obtain ⟨h1, h2, h3⟩ := h
  refine ⟨?_, (h2.setCell _ (.inr h3)).setCell _ (.inr h3), h3⟩
  have := (h1.set (9 + k) (.int .i64 (k : Int))).set (1 + k) (.int .i64 (k : Int))
  rw [ordC_next3 n k hk] at this; exact this
theorem OrdRel.drewN {n b k : Nat} {w wr : World} (h : OrdRel n b w k wr) (m : Nat) : OrdRel n b w k (wr.drewN m) := ⟨h.1.drewN m, h.2.1.drewN m, h.2.2⟩

theorem OrdRel.start (n : Nat) (w : World) : OrdRel n w.heap.size w 0 (w.alloc (.cells (ordC n 0) 206)) := ⟨Blk.new w _ _, (Fr.refl [] w).alloc _, Nat.le_refl _⟩

set_option maxHeartbeats 1000000 in
theorem onew_any (n : Nat) (w : World) (h1 : 1 ≤ n) (h8 : n ≤ 8) :
    Calls Tryz.prog 92 #[.int .i64 (n : Int)] w fun e w' => ∃ b, e = .returned (.pointer (some ⟨b, 0, none⟩)) ∧ Blk w' b (ordCells n) 206 ∧ Fr [] w w' ∧ w.heap.size ≤ b := by
  have m1 : ∀ (w : World) (ts : Array TypeId) (t : TypeId), (Builtin.max_ ts t #[.int .i64 (n : Int), .int .i64 1]).run Tryz.prog w = .ok (.int .i64 (n : Int)) w := fun w ts t => by
    rw [show (1 : Int) = ((1 : Nat) : Int) from rfl, run_max, Nat.max_eq_left h1]
  have m2 : ∀ (w : World) (ts : Array TypeId) (t : TypeId), (Builtin.min_ ts t #[.int .i64 (n : Int), .int .i64 8]).run Tryz.prog w = .ok (.int .i64 (n : Int)) w := fun w ts t => by
    rw [show (8 : Int) = ((8 : Nat) : Int) from rfl, run_min, Nat.min_eq_left h8]
  have R0 := Lib.hid (OrdRel.start n w)
  have n1 : ¬ (n : Int) < 1 := by omega
  have n8 : ¬ (8 : Int) < (n : Int) := by omega
  go_enter Tryz.func92, Tryz.ntmps92
  go_wp2_with fail
  go_loopg [14] n (fun k i wr => ∃ j : Nat, j ≤ n ∧ k = n - j ∧ i = .int .i64 (j : Int) ∧ OrdRel n w.heap.size w j wr)
  case atStart => exact ⟨0, by omega, by omega, rfl, R0.out⟩
  case round =>
    obtain ⟨j, hj, hk, rfl, hr⟩ := hrel
    have c0 := hr.1.cell 0 (v := .int .i64 (n : Int)) rfl
    by_cases hlt : j < n
    · have a1 := hr.1.cell (1 + j) (ordC_at n j (by omega)).1
      have a9 := hr.1.cell (9 + j) (ordC_at n j (by omega)).2
      have f1 := hr.1.free (1 + j)
      have f9 := hr.1.free (9 + j)
      have nx := Lib.hid (hr.next (by omega))
      have nx' := Lib.hid (hr.next' (by omega))
      clear hr
      go_wp2_with fail
      go_region
      all_goals
        go_wp2
        go_roundg (n - (j + 1))
        case measure => omega
        case rel => exact ⟨j + 1, by omega, rfl, by go_num, by first | exact nx.out.drewN 0 | exact nx'.out.drewN 0 | exact nx.out.drewN 1 | exact nx'.out.drewN 1 | exact nx.out | exact nx'.out⟩
    · have e : j = n := by omega
      subst e
      have hB := Lib.hid hr
      clear hr
      go_wp2
      go_ret
      exact ⟨_, rfl, hB.out.1, hB.out.2.1, hB.out.2.2⟩
end Go.Proofs.YtiojnjihbidbiaaGreat

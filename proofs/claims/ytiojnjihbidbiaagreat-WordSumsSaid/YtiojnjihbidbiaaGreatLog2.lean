/- logic, walked: where an operation ends at once. -/
import Derived.Test.YtiojnjihbidbiaaGreatLog1
namespace Go.Proofs.YtiojnjihbidbiaaGreat
open Go.RowKit
attribute [local go_sem ↓] Go.wp_at_zero Go.wp_at_succ
set_option linter.unusedVariables false
set_option linter.unusedSimpArgs false

abbrev fnV (k : Nat) : Value := .func (.func k) #[] #[]
abbrev args3 (a b c : Nat) : Value := .agg #[.int .u32 (a : Int), .int .u32 (b : Int), .int .u32 (c : Int)]

set_option maxRecDepth 4000 in
theorem andEnds_any (a b c : Nat) (w : World) :
    Calls Tryz.prog 106 #[args3 a b c] w fun e w' => e = .returned (.tuple #[.int .u32 ((Bdd.andEnds a b).1 : Nat), .bool (Bdd.andEnds a b).2]) ∧ Fr [] w w' := by
  go_enter Tryz.func106, Tryz.ntmps106
  by_cases h_a0 : a = 0
  · have t_a0 : ((a : Int) == 0) = true := by simp; omega
    have hr : Bdd.andEnds a b = (0, true) := by unfold Bdd.andEnds; (repeat' split) <;> first | (exfalso; omega) | rfl | (simp only [Prod.mk.injEq, decide_eq_true_eq, decide_eq_false_iff_not, true_and]; omega)
    rw [hr]; clear hr h_a0
    go_wp2
    go_ret2
    exact ⟨rfl, (Fr.refl [] w).alloc _⟩
  · by_cases h_b0 : b = 0
    · have t_a0 : ((a : Int) == 0) = false := by simp; omega
      have t_b0 : ((b : Int) == 0) = true := by simp; omega
      have hr : Bdd.andEnds a b = (0, true) := by unfold Bdd.andEnds; (repeat' split) <;> first | (exfalso; omega) | rfl | (simp only [Prod.mk.injEq, decide_eq_true_eq, decide_eq_false_iff_not, true_and]; omega)
      rw [hr]; clear hr h_a0 h_b0
      go_wp2
      go_ret2
      exact ⟨rfl, (Fr.refl [] w).alloc _⟩
    · by_cases h_a1 : a = 1
      · have t_a0 : ((a : Int) == 0) = false := by simp; omega
        have t_b0 : ((b : Int) == 0) = false := by simp; omega
        have t_a1 : ((a : Int) == 1) = true := by simp; omega
        have hr : Bdd.andEnds a b = (b, true) := by unfold Bdd.andEnds; (repeat' split) <;> first | (exfalso; omega) | rfl | (simp only [Prod.mk.injEq, decide_eq_true_eq, decide_eq_false_iff_not, true_and]; omega)
        rw [hr]; clear hr h_a0 h_b0 h_a1
        go_wp2
        go_ret2
        exact ⟨rfl, (Fr.refl [] w).alloc _⟩
      · by_cases h_ab : a = b
        · have t_a0 : ((a : Int) == 0) = false := by simp; omega
          have t_b0 : ((b : Int) == 0) = false := by simp; omega
          have t_a1 : ((a : Int) == 1) = false := by simp; omega
          have t_ab : ((a : Int) == (b : Int)) = true := by simp; omega
          have hr : Bdd.andEnds a b = (b, true) := by unfold Bdd.andEnds; (repeat' split) <;> first | (exfalso; omega) | rfl | (simp only [Prod.mk.injEq, decide_eq_true_eq, decide_eq_false_iff_not, true_and]; omega)
          rw [hr]; clear hr h_a0 h_b0 h_a1 h_ab
          go_wp2
          go_ret2
          exact ⟨rfl, (Fr.refl [] w).alloc _⟩
        · by_cases h_b1 : b = 1
          · have t_a0 : ((a : Int) == 0) = false := by simp; omega
            have t_b0 : ((b : Int) == 0) = false := by simp; omega
            have t_a1 : ((a : Int) == 1) = false := by simp; omega
            have t_ab : ((a : Int) == (b : Int)) = false := by simp; omega
            have t_b1 : ((b : Int) == 1) = true := by simp; omega
            have hr : Bdd.andEnds a b = (a, true) := by unfold Bdd.andEnds; (repeat' split) <;> first | (exfalso; omega) | rfl | (simp only [Prod.mk.injEq, decide_eq_true_eq, decide_eq_false_iff_not, true_and]; omega)
            rw [hr]; clear hr h_a0 h_b0 h_a1 h_ab h_b1
            go_wp2
            go_ret2
            exact ⟨rfl, (Fr.refl [] w).alloc _⟩
          · have t_a0 : ((a : Int) == 0) = false := by simp; omega
            have t_b0 : ((b : Int) == 0) = false := by simp; omega
            have t_a1 : ((a : Int) == 1) = false := by simp; omega
            have t_ab : ((a : Int) == (b : Int)) = false := by simp; omega
            have t_b1 : ((b : Int) == 1) = false := by simp; omega
            have hr : Bdd.andEnds a b = (0, false) := by unfold Bdd.andEnds; (repeat' split) <;> first | (exfalso; omega) | rfl | (simp only [Prod.mk.injEq, decide_eq_true_eq, decide_eq_false_iff_not, true_and]; omega)
            rw [hr]; clear hr h_a0 h_b0 h_a1 h_ab h_b1
            go_wp2
            go_ret2
            exact ⟨rfl, (Fr.refl [] w).alloc _⟩

set_option maxRecDepth 4000 in
theorem orEnds_any (a b c : Nat) (w : World) :
    Calls Tryz.prog 105 #[args3 a b c] w fun e w' => e = .returned (.tuple #[.int .u32 ((Bdd.orEnds a b).1 : Nat), .bool (Bdd.orEnds a b).2]) ∧ Fr [] w w' := by
  go_enter Tryz.func105, Tryz.ntmps105
  by_cases h_a1 : a = 1
  · have t_a1 : ((a : Int) == 1) = true := by simp; omega
    have hr : Bdd.orEnds a b = (1, true) := by unfold Bdd.orEnds; (repeat' split) <;> first | (exfalso; omega) | rfl | (simp only [Prod.mk.injEq, decide_eq_true_eq, decide_eq_false_iff_not, true_and]; omega)
    rw [hr]; clear hr h_a1
    go_wp2
    go_ret2
    exact ⟨rfl, (Fr.refl [] w).alloc _⟩
  · by_cases h_b1 : b = 1
    · have t_a1 : ((a : Int) == 1) = false := by simp; omega
      have t_b1 : ((b : Int) == 1) = true := by simp; omega
      have hr : Bdd.orEnds a b = (1, true) := by unfold Bdd.orEnds; (repeat' split) <;> first | (exfalso; omega) | rfl | (simp only [Prod.mk.injEq, decide_eq_true_eq, decide_eq_false_iff_not, true_and]; omega)
      rw [hr]; clear hr h_a1 h_b1
      go_wp2
      go_ret2
      exact ⟨rfl, (Fr.refl [] w).alloc _⟩
    · by_cases h_a0 : a = 0
      · have t_a1 : ((a : Int) == 1) = false := by simp; omega
        have t_b1 : ((b : Int) == 1) = false := by simp; omega
        have t_a0 : ((a : Int) == 0) = true := by simp; omega
        have hr : Bdd.orEnds a b = (b, true) := by unfold Bdd.orEnds; (repeat' split) <;> first | (exfalso; omega) | rfl | (simp only [Prod.mk.injEq, decide_eq_true_eq, decide_eq_false_iff_not, true_and]; omega)
        rw [hr]; clear hr h_a1 h_b1 h_a0
        go_wp2
        go_ret2
        exact ⟨rfl, (Fr.refl [] w).alloc _⟩
      · by_cases h_ab : a = b
        · have t_a1 : ((a : Int) == 1) = false := by simp; omega
          have t_b1 : ((b : Int) == 1) = false := by simp; omega
          have t_a0 : ((a : Int) == 0) = false := by simp; omega
          have t_ab : ((a : Int) == (b : Int)) = true := by simp; omega
          have hr : Bdd.orEnds a b = (b, true) := by unfold Bdd.orEnds; (repeat' split) <;> first | (exfalso; omega) | rfl | (simp only [Prod.mk.injEq, decide_eq_true_eq, decide_eq_false_iff_not, true_and]; omega)
          rw [hr]; clear hr h_a1 h_b1 h_a0 h_ab
          go_wp2
          go_ret2
          exact ⟨rfl, (Fr.refl [] w).alloc _⟩
        · by_cases h_b0 : b = 0
          · have t_a1 : ((a : Int) == 1) = false := by simp; omega
            have t_b1 : ((b : Int) == 1) = false := by simp; omega
            have t_a0 : ((a : Int) == 0) = false := by simp; omega
            have t_ab : ((a : Int) == (b : Int)) = false := by simp; omega
            have t_b0 : ((b : Int) == 0) = true := by simp; omega
            have hr : Bdd.orEnds a b = (a, true) := by unfold Bdd.orEnds; (repeat' split) <;> first | (exfalso; omega) | rfl | (simp only [Prod.mk.injEq, decide_eq_true_eq, decide_eq_false_iff_not, true_and]; omega)
            rw [hr]; clear hr h_a1 h_b1 h_a0 h_ab h_b0
            go_wp2
            go_ret2
            exact ⟨rfl, (Fr.refl [] w).alloc _⟩
          · have t_a1 : ((a : Int) == 1) = false := by simp; omega
            have t_b1 : ((b : Int) == 1) = false := by simp; omega
            have t_a0 : ((a : Int) == 0) = false := by simp; omega
            have t_ab : ((a : Int) == (b : Int)) = false := by simp; omega
            have t_b0 : ((b : Int) == 0) = false := by simp; omega
            have hr : Bdd.orEnds a b = (0, false) := by unfold Bdd.orEnds; (repeat' split) <;> first | (exfalso; omega) | rfl | (simp only [Prod.mk.injEq, decide_eq_true_eq, decide_eq_false_iff_not, true_and]; omega)
            rw [hr]; clear hr h_a1 h_b1 h_a0 h_ab h_b0
            go_wp2
            go_ret2
            exact ⟨rfl, (Fr.refl [] w).alloc _⟩

set_option maxRecDepth 4000 in
theorem xorEnds_any (a b c : Nat) (w : World) :
    Calls Tryz.prog 150 #[args3 a b c] w fun e w' => e = .returned (.tuple #[.int .u32 ((Bdd.xorEnds a b).1 : Nat), .bool (Bdd.xorEnds a b).2]) ∧ Fr [] w w' := by
  go_enter Tryz.func150, Tryz.ntmps150
  by_cases h_ab : a = b
  · have t_ab : ((a : Int) == (b : Int)) = true := by simp; omega
    have hr : Bdd.xorEnds a b = (0, true) := by unfold Bdd.xorEnds; (repeat' split) <;> first | (exfalso; omega) | rfl | (simp only [Prod.mk.injEq, decide_eq_true_eq, decide_eq_false_iff_not, true_and]; omega)
    rw [hr]; clear hr h_ab
    go_wp2
    go_ret2
    exact ⟨rfl, (Fr.refl [] w).alloc _⟩
  · by_cases h_a0 : a = 0
    · have t_ab : ((a : Int) == (b : Int)) = false := by simp; omega
      have t_a0 : ((a : Int) == 0) = true := by simp; omega
      have hr : Bdd.xorEnds a b = (b, true) := by unfold Bdd.xorEnds; (repeat' split) <;> first | (exfalso; omega) | rfl | (simp only [Prod.mk.injEq, decide_eq_true_eq, decide_eq_false_iff_not, true_and]; omega)
      rw [hr]; clear hr h_ab h_a0
      go_wp2
      go_ret2
      exact ⟨rfl, (Fr.refl [] w).alloc _⟩
    · by_cases h_b0 : b = 0
      · have t_ab : ((a : Int) == (b : Int)) = false := by simp; omega
        have t_a0 : ((a : Int) == 0) = false := by simp; omega
        have t_b0 : ((b : Int) == 0) = true := by simp; omega
        have hr : Bdd.xorEnds a b = (a, true) := by unfold Bdd.xorEnds; (repeat' split) <;> first | (exfalso; omega) | rfl | (simp only [Prod.mk.injEq, decide_eq_true_eq, decide_eq_false_iff_not, true_and]; omega)
        rw [hr]; clear hr h_ab h_a0 h_b0
        go_wp2
        go_ret2
        exact ⟨rfl, (Fr.refl [] w).alloc _⟩
      · by_cases h_al : a ≤ 1
        · by_cases h_bl : b ≤ 1
          · have t_ab : ((a : Int) == (b : Int)) = false := by simp; omega
            have t_a0 : ((a : Int) == 0) = false := by simp; omega
            have t_b0 : ((b : Int) == 0) = false := by simp; omega
            have t_al : decide ((a : Int) ≤ 1) = true := by simp; omega
            have t_bl : decide ((b : Int) ≤ 1) = true := by simp; omega
            have hr : Bdd.xorEnds a b = (1, true) := by unfold Bdd.xorEnds; (repeat' split) <;> first | (exfalso; omega) | rfl | (simp only [Prod.mk.injEq, decide_eq_true_eq, decide_eq_false_iff_not, true_and]; omega)
            rw [hr]; clear hr h_ab h_a0 h_b0 h_al h_bl
            go_wp2_with fail
            go_quiet (fail)
            go_wp2
            go_ret2
            exact ⟨rfl, (Fr.refl [] w).alloc _ |>.drewN _⟩
          · have t_ab : ((a : Int) == (b : Int)) = false := by simp; omega
            have t_a0 : ((a : Int) == 0) = false := by simp; omega
            have t_b0 : ((b : Int) == 0) = false := by simp; omega
            have t_al : decide ((a : Int) ≤ 1) = true := by simp; omega
            have t_bl : decide ((b : Int) ≤ 1) = false := by simp; omega
            have hr : Bdd.xorEnds a b = (1, false) := by unfold Bdd.xorEnds; (repeat' split) <;> first | (exfalso; omega) | rfl | (simp only [Prod.mk.injEq, decide_eq_true_eq, decide_eq_false_iff_not, true_and]; omega)
            rw [hr]; clear hr h_ab h_a0 h_b0 h_al h_bl
            go_wp2_with fail
            go_quiet (fail)
            go_wp2
            go_ret2
            exact ⟨rfl, (Fr.refl [] w).alloc _ |>.drewN _⟩
        · have t_ab : ((a : Int) == (b : Int)) = false := by simp; omega
          have t_a0 : ((a : Int) == 0) = false := by simp; omega
          have t_b0 : ((b : Int) == 0) = false := by simp; omega
          have t_al : decide ((a : Int) ≤ 1) = false := by simp; omega
          have hr : Bdd.xorEnds a b = (1, false) := by unfold Bdd.xorEnds; (repeat' split) <;> first | (exfalso; omega) | rfl | (simp only [Prod.mk.injEq, decide_eq_true_eq, decide_eq_false_iff_not, true_and]; omega)
          rw [hr]; clear hr h_ab h_a0 h_b0 h_al
          go_wp2_with fail
          go_quiet (fail)
          go_wp2
          go_ret2
          exact ⟨rfl, (Fr.refl [] w).alloc _ |>.drewN _⟩

set_option maxRecDepth 4000 in
theorem iteEnds_any (a b c : Nat) (w : World) :
    Calls Tryz.prog 164 #[args3 a b c] w fun e w' => e = .returned (.tuple #[.int .u32 ((Bdd.iteEnds a b c).1 : Nat), .bool (Bdd.iteEnds a b c).2]) ∧ Fr [] w w' := by
  go_enter Tryz.func164, Tryz.ntmps164
  by_cases h_a1 : a = 1
  · have t_a1 : ((a : Int) == 1) = true := by simp; omega
    have hr : Bdd.iteEnds a b c = (b, true) := by unfold Bdd.iteEnds; (repeat' split) <;> first | (exfalso; omega) | rfl | (simp only [Prod.mk.injEq, decide_eq_true_eq, decide_eq_false_iff_not, true_and]; omega)
    rw [hr]; clear hr h_a1
    go_wp2
    go_ret2
    exact ⟨rfl, (Fr.refl [] w).alloc _⟩
  · by_cases h_bc : b = c
    · have t_a1 : ((a : Int) == 1) = false := by simp; omega
      have t_bc : ((b : Int) == (c : Int)) = true := by simp; omega
      have hr : Bdd.iteEnds a b c = (b, true) := by unfold Bdd.iteEnds; (repeat' split) <;> first | (exfalso; omega) | rfl | (simp only [Prod.mk.injEq, decide_eq_true_eq, decide_eq_false_iff_not, true_and]; omega)
      rw [hr]; clear hr h_a1 h_bc
      go_wp2
      go_ret2
      exact ⟨rfl, (Fr.refl [] w).alloc _⟩
    · by_cases h_a0 : a = 0
      · have t_a1 : ((a : Int) == 1) = false := by simp; omega
        have t_bc : ((b : Int) == (c : Int)) = false := by simp; omega
        have t_a0 : ((a : Int) == 0) = true := by simp; omega
        have hr : Bdd.iteEnds a b c = (c, true) := by unfold Bdd.iteEnds; (repeat' split) <;> first | (exfalso; omega) | rfl | (simp only [Prod.mk.injEq, decide_eq_true_eq, decide_eq_false_iff_not, true_and]; omega)
        rw [hr]; clear hr h_a1 h_bc h_a0
        go_wp2
        go_ret2
        exact ⟨rfl, (Fr.refl [] w).alloc _⟩
      · by_cases h_b1 : b = 1
        · by_cases h_c0 : c = 0
          · have t_a1 : ((a : Int) == 1) = false := by simp; omega
            have t_bc : ((b : Int) == (c : Int)) = false := by simp; omega
            have t_a0 : ((a : Int) == 0) = false := by simp; omega
            have t_b1 : ((b : Int) == 1) = true := by simp; omega
            have t_c0 : ((c : Int) == 0) = true := by simp; omega
            have hr : Bdd.iteEnds a b c = (a, true) := by unfold Bdd.iteEnds; (repeat' split) <;> first | (exfalso; omega) | rfl | (simp only [Prod.mk.injEq, decide_eq_true_eq, decide_eq_false_iff_not, true_and]; omega)
            rw [hr]; clear hr h_a1 h_bc h_a0 h_b1 h_c0
            go_wp2_with fail
            go_quiet (fail)
            go_wp2
            go_ret2
            exact ⟨rfl, (Fr.refl [] w).alloc _ |>.drewN _⟩
          · have t_a1 : ((a : Int) == 1) = false := by simp; omega
            have t_bc : ((b : Int) == (c : Int)) = false := by simp; omega
            have t_a0 : ((a : Int) == 0) = false := by simp; omega
            have t_b1 : ((b : Int) == 1) = true := by simp; omega
            have t_c0 : ((c : Int) == 0) = false := by simp; omega
            have hr : Bdd.iteEnds a b c = (a, false) := by unfold Bdd.iteEnds; (repeat' split) <;> first | (exfalso; omega) | rfl | (simp only [Prod.mk.injEq, decide_eq_true_eq, decide_eq_false_iff_not, true_and]; omega)
            rw [hr]; clear hr h_a1 h_bc h_a0 h_b1 h_c0
            go_wp2_with fail
            go_quiet (fail)
            go_wp2
            go_ret2
            exact ⟨rfl, (Fr.refl [] w).alloc _ |>.drewN _⟩
        · have t_a1 : ((a : Int) == 1) = false := by simp; omega
          have t_bc : ((b : Int) == (c : Int)) = false := by simp; omega
          have t_a0 : ((a : Int) == 0) = false := by simp; omega
          have t_b1 : ((b : Int) == 1) = false := by simp; omega
          have hr : Bdd.iteEnds a b c = (a, false) := by unfold Bdd.iteEnds; (repeat' split) <;> first | (exfalso; omega) | rfl | (simp only [Prod.mk.injEq, decide_eq_true_eq, decide_eq_false_iff_not, true_and]; omega)
          rw [hr]; clear hr h_a1 h_bc h_a0 h_b1
          go_wp2_with fail
          go_quiet (fail)
          go_wp2
          go_ret2
          exact ⟨rfl, (Fr.refl [] w).alloc _ |>.drewN _⟩

end Go.Proofs.YtiojnjihbidbiaaGreat

/- logic, walked: where an operation ends at once. -/
import Derived.Test.YtiojnjihbidbiaaGreatBaseE
namespace Go.Proofs.YtiojnjihbidbiaaGreat
open Go.RowKit
attribute [local go_sem ↓] Go.wp_at_zero Go.wp_at_succ
set_option linter.unusedVariables false
set_option linter.unusedSimpArgs false

abbrev fnV (k : Nat) : Value := .func (.func k) #[] #[]
abbrev args3 (a b c : Nat) : Value := .agg #[.int .u32 (a : Int), .int .u32 (b : Int), .int .u32 (c : Int)]

set_option maxRecDepth 4000 in
theorem andEnds_any (a b c : Nat) (w : World) :
    Calls Tryz.prog 106 #[args3 a b c] w fun e w' => e = .returned (.tuple #[.int .u32 ((Bdd.andEnds a b).1 : Nat), .bool (Bdd.andEnds a b).2]) ∧ Fr [] w w' := by
  go_enter Tryz.func106, Tryz.ntmps106
  by_cases h_a0 : a = 0
  · have t_a0 : ((a : Int) == 0) = true := by simp; omega
    have hr : Bdd.andEnds a b = (0, true) := by unfold Bdd.andEnds; (repeat' split) <;> first | (exfalso; omega) | rfl | (simp only [Prod.mk.injEq, decide_eq_true_eq, decide_eq_false_iff_not, true_and]; omega)
    rw [hr]; clear hr h_a0
    go_wp2
    go_ret2
    exact ⟨rfl, (Fr.refl [] w).alloc _⟩
  · by_cases h_b0 : b = 0
    · have t_a0 : ((a : Int) == 0) = false := by simp; omega
      have t_b0 : ((b : Int) == 0) = true := by simp; omega
      have hr : Bdd.andEnds a b = (0, true) := by unfold Bdd.andEnds; (repeat' split) <;> first | (exfalso; omega) | rfl | (simp only [Prod.mk.injEq, decide_eq_true_eq, decide_eq_false_iff_not, true_and]; omega)
      rw [hr]; clear hr h_a0 h_b0
      go_wp2
      go_ret2
      exact ⟨rfl, (Fr.refl [] w).alloc _⟩
    · by_cases h_a1 : a = 1
      · have t_a0 : ((a : Int) == 0) = false := by simp; omega
        have t_b0 : ((b : Int) == 0) = false := by simp; omega
        have t_a1 : ((a : Int) == 1) = true := by simp; omega
        have hr : Bdd.andEnds a b = (b, true) := by unfold Bdd.andEnds; (repeat' split) <;> first | (exfalso; omega) | rfl | (simp only [Prod.mk.injEq, decide_eq_true_eq, decide_eq_false_iff_not, true_and]; omega)
        rw [hr]; clear hr h_a0 h_b0 h_a1
        go_wp2
        go_ret2
        exact ⟨rfl, (Fr.refl [] w).alloc _⟩
      · by_cases h_ab : a = b
        · have t_a0 : ((a : Int) == 0) = false := by simp; omega
          have t_b0 : ((b : Int) == 0) = false := by simp; omega
          have t_a1 : ((a : Int) == 1) = false := by simp; omega
          have t_ab : ((a : Int) == (b : Int)) = true := by simp; omega
          have hr : Bdd.andEnds a b = (b, true) := by unfold Bdd.andEnds; (repeat' split) <;> first | (exfalso; omega) | rfl | (simp only [Prod.mk.injEq, decide_eq_true_eq, decide_eq_false_iff_not, true_and]; omega)
          rw [hr]; clear hr h_a0 h_b0 h_a1 h_ab
          go_wp2
          go_ret2
          exact ⟨rfl, (Fr.refl [] w).alloc _⟩
        · by_cases h_b1 : b = 1
          · have t_a0 : ((a : Int) == 0) = false := by simp; omega
            have t_b0 : ((b : Int) == 0) = false := by simp; omega
            have t_a1 : ((a : Int) == 1) = false := by simp; omega
            have t_ab : ((a : Int) == (b : Int)) = false := by simp; omega
            have t_b1 : ((b : Int) == 1) = true := by simp; omega
            have hr : Bdd.andEnds a b = (a, true) := by unfold Bdd.andEnds; (repeat' split) <;> first | (exfalso; omega) | rfl | (simp only [Prod.mk.injEq, decide_eq_true_eq, decide_eq_false_iff_not, true_and]; omega)
            rw [hr]; clear hr h_a0 h_b0 h_a1 h_ab h_b1
            go_wp2
            go_ret2
            exact ⟨rfl, (Fr.refl [] w).alloc _⟩
          · have t_a0 : ((a : Int) == 0) = false := by simp; omega
            have t_b0 : ((b : Int) == 0) = false := by simp; omega
            have t_a1 : ((a : Int) == 1) = false := by simp; omega
            have t_ab : ((a : Int) == (b : Int)) = false := by simp; omega
            have t_b1 : ((b : Int) == 1) = false := by simp; omega
            have hr : Bdd.andEnds a b = (0, false) := by unfold Bdd.andEnds; (repeat' split) <;> first | (exfalso; omega) | rfl | (simp only [Prod.mk.injEq, decide_eq_true_eq, decide_eq_false_iff_not, true_and]; omega)
            rw [hr]; clear hr h_a0 h_b0 h_a1 h_ab h_b1
            go_wp2
            go_ret2
            exact ⟨rfl, (Fr.refl [] w).alloc _⟩

set_option maxRecDepth 4000 in
theorem orEnds_any (a b c : Nat) (w : World) :
    Calls Tryz.prog 105 #[args3 a b c] w fun e w' => e = .returned (.tuple #[.int .u32 ((Bdd.orEnds a b).1 : Nat), .bool (Bdd.orEnds a b).2]) ∧ Fr [] w w' := by
  go_enter Tryz.func105, Tryz.ntmps105
  by_cases h_a1 : a = 1
  · have t_a1 : ((a : Int) == 1) = true := by simp; omega
    have hr : Bdd.orEnds a b = (1, true) := by unfold Bdd.orEnds; (repeat' split) <;> first | (exfalso; omega) | rfl | (simp only [Prod.mk.injEq, decide_eq_true_eq, decide_eq_false_iff_not, true_and]; omega)
    rw [hr]; clear hr h_a1
    go_wp2
    go_ret2
    exact ⟨rfl, (Fr.refl [] w).alloc _⟩
  · by_cases h_b1 : b = 1
    · have t_a1 : ((a : Int) == 1) = false := by simp; omega
      have t_b1 : ((b : Int) == 1) = true := by simp; omega
      have hr : Bdd.orEnds a b = (1, true) := by unfold Bdd.orEnds; (repeat' split) <;> first | (exfalso; omega) | rfl | (simp only [Prod.mk.injEq, decide_eq_true_eq, decide_eq_false_iff_not, true_and]; omega)
      rw [hr]; clear hr h_a1 h_b1
      go_wp2
      go_ret2
      exact ⟨rfl, (Fr.refl [] w).alloc _⟩
    · by_cases h_a0 : a = 0
      · have t_a1 : ((a : Int) == 1) = false := by simp; omega
        have t_b1 : ((b : Int) == 1) = false := by simp; omega
        have t_a0 : ((a : Int) == 0) = true := by simp; omega
        have hr : Bdd.orEnds a b = (b, true) := by unfold Bdd.orEnds; (repeat' split) <;> first | (exfalso; omega) | rfl | (simp only [Prod.mk.injEq, decide_eq_true_eq, decide_eq_false_iff_not, true_and]; omega)
        rw [hr]; clear hr h_a1 h_b1 h_a0
        go_wp2
        go_ret2
        exact ⟨rfl, (Fr.refl [] w).alloc _⟩
      · by_cases h_ab : a = b
        · have t_a1 : ((a : Int) == 1) = false := by simp; omega
          have t_b1 : ((b : Int) == 1) = false := by simp; omega
          have t_a0 : ((a : Int) == 0) = false := by simp; omega
          have t_ab : ((a : Int) == (b : Int)) = true := by simp; omega
          have hr : Bdd.orEnds a b = (b, true) := by unfold Bdd.orEnds; (repeat' split) <;> first | (exfalso; omega) | rfl | (simp only [Prod.mk.injEq, decide_eq_true_eq, decide_eq_false_iff_not, true_and]; omega)
          rw [hr]; clear hr h_a1 h_b1 h_a0 h_ab
          go_wp2
          go_ret2
          exact ⟨rfl, (Fr.refl [] w).alloc _⟩
        · by_cases h_b0 : b = 0
          · have t_a1 : ((a : Int) == 1) = false := by simp; omega
            have t_b1 : ((b : Int) == 1) = false := by simp; omega
            have t_a0 : ((a : Int) == 0) = false := by simp; omega
            have t_ab : ((a : Int) == (b : Int)) = false := by simp; omega
            have t_b0 : ((b : Int) == 0) = true := by simp; omega
            have hr : Bdd.orEnds a b = (a, true) := by unfold Bdd.orEnds; (repeat' split) <;> first | (exfalso; omega) | rfl | (simp only [Prod.mk.injEq, decide_eq_true_eq, decide_eq_false_iff_not, true_and]; omega)
            rw [hr]; clear hr h_a1 h_b1 h_a0 h_ab h_b0
            go_wp2
            go_ret2
            exact ⟨rfl, (Fr.refl [] w).alloc _⟩
          · have t_a1 : ((a : Int) == 1) = false := by simp; omega
            have t_b1 : ((b : Int) == 1) = false := by simp; omega
            have t_a0 : ((a : Int) == 0) = false := by simp; omega
            have t_ab : ((a : Int) == (b : Int)) = false := by simp; omega
            have t_b0 : ((b : Int) == 0) = false := by simp; omega
            have hr : Bdd.orEnds a b = (0, false) := by unfold Bdd.orEnds; (repeat' split) <;> first | (exfalso; omega) | rfl | (simp only [Prod.mk.injEq, decide_eq_true_eq, decide_eq_false_iff_not, true_and]; omega)
            rw [hr]; clear hr h_a1 h_b1 h_a0 h_ab h_b0
            go_wp2
            go_ret2
            exact ⟨rfl, (Fr.refl [] w).alloc _⟩

set_option maxRecDepth 4000 in
theorem xorEnds_any (a b c : Nat) (w : World) :
    Calls Tryz.prog 150 #[args3 a b c] w fun e w' => e = .returned (.tuple #[.int .u32 ((Bdd.xorEnds a b).1 : Nat), .bool (Bdd.xorEnds a b).2]) ∧ Fr [] w w' := by
  go_enter Tryz.func150, Tryz.ntmps150
  by_cases h_ab : a = b
  · have t_ab : ((a : Int) == (b : Int)) = true := by simp; omega
    have hr : Bdd.xorEnds a b = (0, true) := by unfold Bdd.xorEnds; (repeat' split) <;> first | (exfalso; omega) | rfl | (simp only [Prod.mk.injEq, decide_eq_true_eq, decide_eq_false_iff_not, true_and]; omega)
    rw [hr]; clear hr h_ab
    go_wp2
    go_ret2
    exact ⟨rfl, (Fr.refl [] w).alloc _⟩
  · by_cases h_a0 : a = 0
    · have t_ab : ((a : Int) == (b : Int)) = false := by simp; omega
      have t_a0 : ((a : Int) == 0) = true := by simp; omega
      have hr : Bdd.xorEnds a b = (b, true) := by unfold Bdd.xorEnds; (repeat' split) <;> first | (exfalso; omega) | rfl | (simp only [Prod.mk.injEq, decide_eq_true_eq, decide_eq_false_iff_not, true_and]; omega)
      rw [hr]; clear hr h_ab h_a0
      go_wp2
      go_ret2
      exact ⟨rfl, (Fr.refl [] w).alloc _⟩
    · by_cases h_b0 : b = 0
      · have t_ab : ((a : Int) == (b : Int)) = false := by simp; omega
        have t_a0 : ((a : Int) == 0) = false := by simp; omega
        have t_b0 : ((b : Int) == 0) = true := by simp; omega
        have hr : Bdd.xorEnds a b = (a, true) := by unfold Bdd.xorEnds; (repeat' split) <;> first | (exfalso; omega) | rfl | (simp only [Prod.mk.injEq, decide_eq_true_eq, decide_eq_false_iff_not, true_and]; omega)
        rw [hr]; clear hr h_ab h_a0 h_b0
        go_wp2
        go_ret2
        exact ⟨rfl, (Fr.refl [] w).alloc _⟩
      · by_cases h_al : a ≤ 1
        · by_cases h_bl : b ≤ 1
          · have t_ab : ((a : Int) == (b : Int)) = false := by simp; omega
            have t_a0 : ((a : Int) == 0) = false := by simp; omega
            have t_b0 : ((b : Int) == 0) = false := by simp; omega
            have t_al : decide ((a : Int) ≤ 1) = true := by simp; omega
            have t_bl : decide ((b : Int) ≤ 1) = true := by simp; omega
            have hr : Bdd.xorEnds a b = (1, true) := by unfold Bdd.xorEnds; (repeat' split) <;> first | (exfalso; omega) | rfl | (simp only [Prod.mk.injEq, decide_eq_true_eq, decide_eq_false_iff_not, true_and]; omega)
            rw [hr]; clear hr h_ab h_a0 h_b0 h_al h_bl
            go_wp2_with fail
            go_quiet (fail)
            go_wp2
            go_ret2
            exact ⟨rfl, (Fr.refl [] w).alloc _ |>.drewN _⟩
          · have t_ab : ((a : Int) == (b : Int)) = false := by simp; omega
            have t_a0 : ((a : Int) == 0) = false := by simp; omega
            have t_b0 : ((b : Int) == 0) = false := by simp; omega
            have t_al : decide ((a : Int) ≤ 1) = true := by simp; omega
            have t_bl : decide ((b : Int) ≤ 1) = false := by simp; omega
            have hr : Bdd.xorEnds a b = (1, false) := by unfold Bdd.xorEnds; (repeat' split) <;> first | (exfalso; omega) | rfl | (simp only [Prod.mk.injEq, decide_eq_true_eq, decide_eq_false_iff_not, true_and]; omega)
            rw [hr]; clear hr h_ab h_a0 h_b0 h_al h_bl
            go_wp2_with fail
            go_quiet (fail)
            go_wp2
            go_ret2
            exact ⟨rfl, (Fr.refl [] w).alloc _ |>.drewN _⟩
        · have t_ab : ((a : Int) == (b : Int)) = false := by simp; omega
          have t_a0 : ((a : Int) == 0) = false := by simp; omega
          have t_b0 : ((b : Int) == 0) = false := by simp; omega
          have t_al : decide ((a : Int) ≤ 1) = false := by simp; omega
          have hr : Bdd.xorEnds a b = (1, false) := by unfold Bdd.xorEnds; (repeat' split) <;> first | (exfalso; omega) | rfl | (simp only [Prod.mk.injEq, decide_eq_true_eq, decide_eq_false_iff_not, true_and]; omega)
          rw [hr]; clear hr h_ab h_a0 h_b0 h_al
          go_wp2_with fail
          go_quiet (fail)
          go_wp2
          go_ret2
          exact ⟨rfl, (Fr.refl [] w).alloc _ |>.drewN _⟩

set_option maxRecDepth 4000 in
theorem iteEnds_any (a b c : Nat) (w : World) :
    Calls Tryz.prog 164 #[args3 a b c] w fun e w' => e = .returned (.tuple #[.int .u32 ((Bdd.iteEnds a b c).1 : Nat), .bool (Bdd.iteEnds a b c).2]) ∧ Fr [] w w' := by
  go_enter Tryz.func164, Tryz.ntmps164
  by_cases h_a1 : a = 1
  · have t_a1 : ((a : Int) == 1) = true := by simp; omega
    have hr : Bdd.iteEnds a b c = (b, true) := by unfold Bdd.iteEnds; (repeat' split) <;> first | (exfalso; omega) | rfl | (simp only [Prod.mk.injEq, decide_eq_true_eq, decide_eq_false_iff_not, true_and]; omega)
    rw [hr]; clear hr h_a1
    go_wp2
    go_ret2
    exact ⟨rfl, (Fr.refl [] w).alloc _⟩
  · by_cases h_bc : b = c
    · have t_a1 : ((a : Int) == 1) = false := by simp; omega
      have t_bc : ((b : Int) == (c : Int)) = true := by simp; omega
      have hr : Bdd.iteEnds a b c = (b, true) := by unfold Bdd.iteEnds; (repeat' split) <;> first | (exfalso; omega) | rfl | (simp only [Prod.mk.injEq, decide_eq_true_eq, decide_eq_false_iff_not, true_and]; omega)
      rw [hr]; clear hr h_a1 h_bc
      go_wp2
      go_ret2
      exact ⟨rfl, (Fr.refl [] w).alloc _⟩
    · by_cases h_a0 : a = 0
      · have t_a1 : ((a : Int) == 1) = false := by simp; omega
        have t_bc : ((b : Int) == (c : Int)) = false := by simp; omega
        have t_a0 : ((a : Int) == 0) = true := by simp; omega
        have hr : Bdd.iteEnds a b c = (c, true) := by unfold Bdd.iteEnds; (repeat' split) <;> first | (exfalso; omega) | rfl | (simp only [Prod.mk.injEq, decide_eq_true_eq, decide_eq_false_iff_not, true_and]; omega)
        rw [hr]; clear hr h_a1 h_bc h_a0
        go_wp2
        go_ret2
        exact ⟨rfl, (Fr.refl [] w).alloc _⟩
      · by_cases h_b1 : b = 1
        · by_cases h_c0 : c = 0
          · have t_a1 : ((a : Int) == 1) = false := by simp; omega
            have t_bc : ((b : Int) == (c : Int)) = false := by simp; omega
            have t_a0 : ((a : Int) == 0) = false := by simp; omega
            have t_b1 : ((b : Int) == 1) = true := by simp; omega
            have t_c0 : ((c : Int) == 0) = true := by simp; omega
            have hr : Bdd.iteEnds a b c = (a, true) := by unfold Bdd.iteEnds; (repeat' split) <;> first | (exfalso; omega) | rfl | (simp only [Prod.mk.injEq, decide_eq_true_eq, decide_eq_false_iff_not, true_and]; omega)
            rw [hr]; clear hr h_a1 h_bc h_a0 h_b1 h_c0
            go_wp2_with fail
            go_quiet (fail)
            go_wp2
            go_ret2
            exact ⟨rfl, (Fr.refl [] w).alloc _ |>.drewN _⟩
          · have t_a1 : ((a : Int) == 1) = false := by simp; omega
            have t_bc : ((b : Int) == (c : Int)) = false := by simp; omega
            have t_a0 : ((a : Int) == 0) = false := by simp; omega
            have t_b1 : ((b : Int) == 1) = true := by simp; omega
            have t_c0 : ((c : Int) == 0) = false := by simp; omega
            have hr : Bdd.iteEnds a b c = (a, false) := by unfold Bdd.iteEnds; (repeat' split) <;> first | (exfalso; omega) | rfl | (simp only [Prod.mk.injEq, decide_eq_true_eq, decide_eq_false_iff_not, true_and]; omega)
            rw [hr]; clear hr h_a1 h_bc h_a0 h_b1 h_c0
            go_wp2_with fail
            go_quiet (fail)
            go_wp2
            go_ret2
            exact ⟨rfl, (Fr.refl [] w).alloc _ |>.drewN _⟩
        · have t_a1 : ((a : Int) == 1) = false := by simp; omega
          have t_bc : ((b : Int) == (c : Int)) = false := by simp; omega
          have t_a0 : ((a : Int) == 0) = false := by simp; omega
          have t_b1 : ((b : Int) == 1) = false := by simp; omega
          have hr : Bdd.iteEnds a b c = (a, false) := by unfold Bdd.iteEnds; (repeat' split) <;> first | (exfalso; omega) | rfl | (simp only [Prod.mk.injEq, decide_eq_true_eq, decide_eq_false_iff_not, true_and]; omega)
          rw [hr]; clear hr h_a1 h_bc h_a0 h_b1
          go_wp2_with fail
          go_quiet (fail)
          go_wp2
          go_ret2
          exact ⟨rfl, (Fr.refl [] w).alloc _ |>.drewN _⟩

end Go.Proofs.YtiojnjihbidbiaaGreat
/- logic, walked: a node's child on a level; the halves. -/
namespace Go.Proofs.YtiojnjihbidbiaaGreat
open Go.RowKit
attribute [local go_sem ↓] Go.wp_at_zero Go.wp_at_succ
set_option linter.unusedVariables false

theorem yz {a b : Nat} (h : a = b) : ((a : Int) == (b : Int)) = true := by simp; omega

section
variable {w w' : World} {s n room : Nat} {off : Bool} {B : List Nat} {L : List Bdd.Nd}

theorem child_lo (h : Sto w s B n room off L) {k l : Nat} (hk : Bdd.IsNd (Bdd.tab L) k) (hl : l < n) :
    Calls Tryz.prog 257 #[.pointer (some ⟨s, 0, none⟩), fnV 127, .int .u32 (k : Int), .int .i64 (l : Int)] w fun e w' => e = .returned (.int .u32 (Bdd.chLo n (Bdd.tab L) k l : Nat)) ∧ w = w' := by
  go_enter Tryz.func257, Tryz.ntmps257
  by_cases e : Bdd.lev n (Bdd.tab L) k = l
  · obtain ⟨h2, d, hd, hdl⟩ := Bdd.lev_lt_node (n := n) hk (by omega)
    have hr : Bdd.chLo n (Bdd.tab L) k l = d.lo := by unfold Bdd.chLo; rw [if_pos e, hd]
    rw [hr]
    have t := yz e
    clear hr
    go_wp2_with fail
    refine (sto_level h hk).mono ?_
    rintro e w1 ⟨rfl, rfl⟩
    go_wp2_with fail
    refine (sto_low h hd).mono ?_
    rintro e w1 ⟨rfl, rfl⟩
    go_wp2
    go_ret
    exact ⟨rfl, rfl⟩
  · have hr : Bdd.chLo n (Bdd.tab L) k l = k := by unfold Bdd.chLo; rw [if_neg e]
    rw [hr]
    have t := ne_test e
    clear hr e
    go_wp2_with fail
    refine (sto_level h hk).mono ?_
    rintro e w1 ⟨rfl, rfl⟩
    go_wp2
    go_ret
    exact ⟨rfl, rfl⟩
theorem child_hi (h : Sto w s B n room off L) {k l : Nat} (hk : Bdd.IsNd (Bdd.tab L) k) (hl : l < n) :
    Calls Tryz.prog 257 #[.pointer (some ⟨s, 0, none⟩), fnV 128, .int .u32 (k : Int), .int .i64 (l : Int)] w fun e w' => e = .returned (.int .u32 (Bdd.chHi n (Bdd.tab L) k l : Nat)) ∧ w = w' := by
  go_enter Tryz.func257, Tryz.ntmps257
  by_cases e : Bdd.lev n (Bdd.tab L) k = l
  · obtain ⟨h2, d, hd, hdl⟩ := Bdd.lev_lt_node (n := n) hk (by omega)
    have hr : Bdd.chHi n (Bdd.tab L) k l = d.hi := by unfold Bdd.chHi; rw [if_pos e, hd]
    rw [hr]
    have t := yz e
    clear hr
    go_wp2_with fail
    refine (sto_level h hk).mono ?_
    rintro e w1 ⟨rfl, rfl⟩
    go_wp2_with fail
    refine (sto_high h hd).mono ?_
    rintro e w1 ⟨rfl, rfl⟩
    go_wp2
    go_ret
    exact ⟨rfl, rfl⟩
  · have hr : Bdd.chHi n (Bdd.tab L) k l = k := by unfold Bdd.chHi; rw [if_neg e]
    rw [hr]
    have t := ne_test e
    clear hr e
    go_wp2_with fail
    refine (sto_level h hk).mono ?_
    rintro e w1 ⟨rfl, rfl⟩
    go_wp2
    go_ret
    exact ⟨rfl, rfl⟩

theorem idx0 (a b c : Nat) (w : World) : (Instr.index 154 (args3 a b c) (.int .i64 0)).run Tryz.prog w = .ok (.int .u32 (a : Int)) w := by kernel_rfl
theorem idx1 (a b c : Nat) (w : World) : (Instr.index 154 (args3 a b c) (.int .i64 1)).run Tryz.prog w = .ok (.int .u32 (b : Int)) w := by kernel_rfl
theorem idx2 (a b c : Nat) (w : World) : (Instr.index 154 (args3 a b c) (.int .i64 2)).run Tryz.prog w = .ok (.int .u32 (c : Int)) w := by kernel_rfl

abbrev walkV (s op k : Nat) : Value := .agg #[.pointer (some ⟨s, 0, none⟩), .int .u8 (op : Int), fnV k]

set_option maxHeartbeats 1000000 in
set_option maxRecDepth 4000 in
theorem half_lo {P : Ending → World → Prop} (h : Sto w s B n room off L) {a b c l op k : Nat} (ha : Bdd.IsNd (Bdd.tab L) a) (hb : Bdd.IsNd (Bdd.tab L) b) (hc : Bdd.IsNd (Bdd.tab L) c) (hl : l < n)
    (hd : ∀ w1, Fr [] w w1 → Calls Tryz.prog 165 #[walkV s op k, args3 (Bdd.chLo n (Bdd.tab L) a l) (Bdd.chLo n (Bdd.tab L) b l) (Bdd.chLo n (Bdd.tab L) c l)] w1 P) (hP : ∀ e w', P e w' → ∃ x y, e = .returned (.tuple #[x, y])) :
    Calls Tryz.prog 210 #[walkV s op k, args3 a b c, .int .i64 (l : Int), fnV 127] w P := by
  have i0 := idx0 a b c
  have i1 := idx1 a b c
  have i2 := idx2 a b c
  go_enter Tryz.func210, Tryz.ntmps210
  go_wp2_with fail
  refine wp_loop_rounds 4 ?_
  rw [rounds_succ]
  go_wp2_with fail
  refine (child_lo (h.fr (((Fr.refl [] w).alloc _).alloc _) (by simp)) ha hl).mono ?_
  rintro e w1 ⟨rfl, rfl⟩
  go_wp2_with fail
  rw [rounds_succ]
  go_wp2_with fail
  refine (child_lo (room := room) (off := off) (B := B) ?h1 hb hl).mono ?_
  case h1 => exact h.fr (((Fr.refl [] w).alloc _).alloc _) (by simp)
  rintro e w1 ⟨rfl, rfl⟩
  go_wp2_with fail
  rw [rounds_succ]
  go_wp2_with fail
  refine (child_lo (room := room) (off := off) (B := B) ?h2 hc hl).mono ?_
  case h2 => exact h.fr (((Fr.refl [] w).alloc _).alloc _) (by simp)
  rintro e w1 ⟨rfl, rfl⟩
  go_wp2_with fail
  rw [rounds_succ]
  go_wp2_with fail
  refine (hd _ ?h3).mono ?_
  case h3 => exact ((Fr.refl [] w).alloc _).alloc _
  intro e w1 hp
  obtain ⟨x, y, rfl⟩ := hP _ _ hp
  go_wp2
  exact hp
set_option maxHeartbeats 1000000 in
set_option maxRecDepth 4000 in
theorem half_hi {P : Ending → World → Prop} (h : Sto w s B n room off L) {a b c l op k : Nat} (ha : Bdd.IsNd (Bdd.tab L) a) (hb : Bdd.IsNd (Bdd.tab L) b) (hc : Bdd.IsNd (Bdd.tab L) c) (hl : l < n)
    (hd : ∀ w1, Fr [] w w1 → Calls Tryz.prog 165 #[walkV s op k, args3 (Bdd.chHi n (Bdd.tab L) a l) (Bdd.chHi n (Bdd.tab L) b l) (Bdd.chHi n (Bdd.tab L) c l)] w1 P) (hP : ∀ e w', P e w' → ∃ x y, e = .returned (.tuple #[x, y])) :
    Calls Tryz.prog 210 #[walkV s op k, args3 a b c, .int .i64 (l : Int), fnV 128] w P := by
  have i0 := idx0 a b c
  have i1 := idx1 a b c
  have i2 := idx2 a b c
  go_enter Tryz.func210, Tryz.ntmps210
  go_wp2_with fail
  refine wp_loop_rounds 4 ?_
  rw [rounds_succ]
  go_wp2_with fail
  refine (child_hi (h.fr (((Fr.refl [] w).alloc _).alloc _) (by simp)) ha hl).mono ?_
  rintro e w1 ⟨rfl, rfl⟩
  go_wp2_with fail
  rw [rounds_succ]
  go_wp2_with fail
  refine (child_hi (room := room) (off := off) (B := B) ?h1 hb hl).mono ?_
  case h1 => exact h.fr (((Fr.refl [] w).alloc _).alloc _) (by simp)
  rintro e w1 ⟨rfl, rfl⟩
  go_wp2_with fail
  rw [rounds_succ]
  go_wp2_with fail
  refine (child_hi (room := room) (off := off) (B := B) ?h2 hc hl).mono ?_
  case h2 => exact h.fr (((Fr.refl [] w).alloc _).alloc _) (by simp)
  rintro e w1 ⟨rfl, rfl⟩
  go_wp2_with fail
  rw [rounds_succ]
  go_wp2_with fail
  refine (hd _ ?h3).mono ?_
  case h3 => exact ((Fr.refl [] w).alloc _).alloc _
  intro e w1 hp
  obtain ⟨x, y, rfl⟩ := hP _ _ hp
  go_wp2
  exact hp
end
end Go.Proofs.YtiojnjihbidbiaaGreat
/- logic, walked: an operation. -/
namespace Go.Proofs.YtiojnjihbidbiaaGreat
open Go.RowKit
attribute [local go_sem ↓] Go.wp_at_zero Go.wp_at_succ
set_option linter.unusedVariables false

/-- The function that tells where an operation ends at once. -/
def opK (op : Nat) : Nat := if op = 2 then 106 else if op = 3 then 105 else if op = 4 then 150 else 164

theorem opEnds_any {op : Nat} (ho : op = 2 ∨ op = 3 ∨ op = 4 ∨ op = 5) (a b c : Nat) (w : World) :
    Calls Tryz.prog (opK op) #[args3 a b c] w fun e w' => e = .returned (.tuple #[.int .u32 ((Bdd.ends op a b c).1 : Nat), .bool (Bdd.ends op a b c).2]) ∧ Fr [] w w' := by
  rcases ho with rfl | rfl | rfl | rfl
  · exact andEnds_any a b c w
  · exact orEnds_any a b c w
  · exact xorEnds_any a b c w
  · exact iteEnds_any a b c w

theorem opK_enters {op : Nat} (ho : op = 2 ∨ op = 3 ∨ op = 4 ∨ op = 5) (args : Array Value) (w : World) : (callFunc (opK op) args).run Tryz.prog w = .ok (.enter (opK op) args) w := by
  rcases ho with rfl | rfl | rfl | rfl
  · kernel_rfl
  · kernel_rfl
  · kernel_rfl
  · kernel_rfl

section
variable {w w' : World} {s n room : Nat} {off : Bool} {B : List Nat} {L : List Bdd.Nd}

theorem OpPost.after {c c1 c2 : Nat} {P : List Bdd.Nd → Nat → Prop} {B1 : List Nat} {L1 : List Bdd.Nd} {w1 : World} {e : Ending} (h1 : Evo s n room off B L w B1 L1 w1 c1) (h2 : OpPost s n room off B1 L1 w1 c2 P e w') (hc : c1 + c2 ≤ c) : OpPost s n room off B L w c P e w' := by
  obtain ⟨B2, L2, hev, h⟩ := h2
  exact ⟨B2, L2, (h1.trans hev).mono hc, h⟩

theorem OpPost.ret {c : Nat} {P : List Bdd.Nd → Nat → Prop} {B1 : List Nat} {L1 : List Bdd.Nd} {w1 : World} {h : Nat} (h1 : Evo s n room off B L w B1 L1 w1 c) (hp : P L1 h) : OpPost s n room off B L w c P (ansH h 0) w1 := ⟨B1, L1, h1, .inr ⟨h, rfl, hp⟩⟩

theorem OpPost.full {c : Nat} {P : List Bdd.Nd → Nat → Prop} {B1 : List Nat} {L1 : List Bdd.Nd} {w1 : World} (h1 : Evo s n room off B L w B1 L1 w1 c) (hp : room ≤ L1.length) : OpPost s n room off B L w c P (ansH 0 60) w1 := ⟨B1, L1, h1, .inl ⟨rfl, hp⟩⟩

theorem OpPost.form {c : Nat} {P : List Bdd.Nd → Nat → Prop} {e : Ending} (h : OpPost s n room off B L w c P e w') : ∃ x y, e = .returned (.tuple #[x, y]) := by
  obtain ⟨_, _, _, ⟨rfl, _⟩ | ⟨h, rfl, _⟩⟩ := h <;> exact ⟨_, _, rfl⟩

theorem Gr.chLo {n c : Nat} {L L' : List Bdd.Nd} (g : Bdd.Gr n L L' c) {h : Nat} (hh : Bdd.IsNd (Bdd.tab L) h) (l : Nat) (hl : l < n) : Bdd.chLo n (Bdd.tab L') h l = Bdd.chLo n (Bdd.tab L) h l := by
  unfold Bdd.chLo
  rw [g.lev hh]
  by_cases e : Bdd.lev n (Bdd.tab L) h = l
  · obtain ⟨_, d, hd, _⟩ := Bdd.lev_lt_node (n := n) hh (by omega)
    rw [if_pos e, if_pos e, hd, g.sub h d hd]
  · rw [if_neg e, if_neg e]

theorem Gr.chHi {n c : Nat} {L L' : List Bdd.Nd} (g : Bdd.Gr n L L' c) {h : Nat} (hh : Bdd.IsNd (Bdd.tab L) h) (l : Nat) (hl : l < n) : Bdd.chHi n (Bdd.tab L') h l = Bdd.chHi n (Bdd.tab L) h l := by
  unfold Bdd.chHi
  rw [g.lev hh]
  by_cases e : Bdd.lev n (Bdd.tab L) h = l
  · obtain ⟨_, d, hd, _⟩ := Bdd.lev_lt_node (n := n) hh (by omega)
    rw [if_pos e, if_pos e, hd, g.sub h d hd]
  · rw [if_neg e, if_neg e]

theorem is_lev {n : Nat} {T : Bdd.Tab} (hw : Bdd.Wf n T) {op a b c h l : Nat} (ha : Bdd.IsNd T a) (hb : Bdd.IsNd T b) (hc : Bdd.IsNd T c) (hl : l < n) (la : l < Bdd.lev n T a) (lb : l < Bdd.lev n T b) (lc : l < Bdd.lev n T c) (hi : Bdd.Is n T op a b c h) : l < Bdd.lev n T h := by
  refine Bdd.lev_ge hw (m := l + 1) hi.1 (by omega) fun j hj y b' => ?_
  rw [hi.2, hi.2, Bdd.D_upd_above hw ha (by omega) y b', Bdd.D_upd_above hw hb (by omega) y b', Bdd.D_upd_above hw hc (by omega) y b']

theorem run_min (k : IntKind) (ts : Array TypeId) (t : TypeId) (x y : Nat) (w : World) : (Builtin.min_ ts t #[.int k (x : Int), .int k (y : Int)]).run Tryz.prog w = .ok (.int k ((min x y : Nat) : Int)) w := by
  go_simp
  by_cases h : y < x
  · rw [if_pos h, Nat.min_eq_right (by omega)]
  · rw [if_neg h, Nat.min_eq_left (by omega)]
theorem run_max (k : IntKind) (ts : Array TypeId) (t : TypeId) (x y : Nat) (w : World) : (Builtin.max_ ts t #[.int k (x : Int), .int k (y : Int)]).run Tryz.prog w = .ok (.int k ((max x y : Nat) : Int)) w := by
  go_simp
  by_cases h : x < y
  · rw [if_pos h, Nat.max_eq_right (by omega)]
  · rw [if_neg h, Nat.max_eq_left (by omega)]
attribute [local go_sem ↓] run_min run_max

/-- The least level of an operation's arguments. -/
def lev3 (n : Nat) (L : List Bdd.Nd) (a b c : Nat) : Nat := min (min (Bdd.lev n (Bdd.tab L) a) (Bdd.lev n (Bdd.tab L) b)) (Bdd.lev n (Bdd.tab L) c)

/-- What an operation answers. -/
abbrev DoesPost (s n room : Nat) (off : Bool) (B : List Nat) (L : List Bdd.Nd) (w : World) (op a b c : Nat) : Ending → World → Prop :=
  OpPost s n room off B L w (Bdd.cb (lev3 n L a b c)) (fun L' h => Bdd.Is n (Bdd.tab L') op a b c h)

theorem lt_lev3 {n l : Nat} {L : List Bdd.Nd} {a b c : Nat} (ha : l < Bdd.lev n (Bdd.tab L) a) (hb : l < Bdd.lev n (Bdd.tab L) b) (hc : l < Bdd.lev n (Bdd.tab L) c) : l < lev3 n L a b c := by unfold lev3; omega

theorem cb2 {n l : Nat} {L L' : List Bdd.Nd} {a b c a' b' c' : Nat} (ha : l < Bdd.lev n (Bdd.tab L) a) (hb : l < Bdd.lev n (Bdd.tab L) b) (hc : l < Bdd.lev n (Bdd.tab L) c) (ha' : l < Bdd.lev n (Bdd.tab L') a') (hb' : l < Bdd.lev n (Bdd.tab L') b') (hc' : l < Bdd.lev n (Bdd.tab L') c') :
    Bdd.cb (lev3 n L a b c) + Bdd.cb (lev3 n L' a' b' c') + mkc l ≤ Bdd.cb l := Bdd.cb_two (lt_lev3 ha hb hc) (lt_lev3 ha' hb' hc')

theorem le_cb1 {n l : Nat} {L : List Bdd.Nd} {a b c : Nat} (ha : l < Bdd.lev n (Bdd.tab L) a) (hb : l < Bdd.lev n (Bdd.tab L) b) (hc : l < Bdd.lev n (Bdd.tab L) c) : 0 + (0 + Bdd.cb (lev3 n L a b c)) ≤ Bdd.cb l := by
  have := cb2 ha hb hc ha hb hc; omega

theorem Blk3 {w : World} {b : Nat} {v0 v1 v2 : Value} {t : Nat} (h : Blk w b #[v0, v1, v2] t) : w.cell? ⟨b, 0, none⟩ = some v0 ∧ w.cell? ⟨b, 1, none⟩ = some v1 ∧ w.cell? ⟨b, 2, none⟩ = some v2 :=
  ⟨h.cell 0 rfl, h.cell 1 rfl, h.cell 2 rfl⟩

set_option maxHeartbeats 2000000 in
set_option maxRecDepth 4000 in
theorem does_step (h : Sto w s B n room off L) {op a b c : Nat} (ho : op = 2 ∨ op = 3 ∨ op = 4 ∨ op = 5) (ha : Bdd.IsNd (Bdd.tab L) a) (hb : Bdd.IsNd (Bdd.tab L) b) (hc : Bdd.IsNd (Bdd.tab L) c)
    (hd : ∀ (w1 : World) (B1 : List Nat) (L1 : List Bdd.Nd) (a1 b1 c1 : Nat), Sto w1 s B1 n room off L1 → Bdd.IsNd (Bdd.tab L1) a1 → Bdd.IsNd (Bdd.tab L1) b1 → Bdd.IsNd (Bdd.tab L1) c1 → lev3 n L a b c < lev3 n L1 a1 b1 c1 →
      Calls Tryz.prog 165 #[walkV s op (opK op), args3 a1 b1 c1] w1 (DoesPost s n room off B1 L1 w1 op a1 b1 c1)) :
    Calls Tryz.prog 165 #[walkV s op (opK op), args3 a b c] w (DoesPost s n room off B L w op a b c) := by
  have i0 := idx0 a b c
  have i1 := idx1 a b c
  have i2 := idx2 a b c
  have hA := (Blk.new w #[.pointer (some ⟨s, 0, none⟩), .int .u8 (op : Int), fnV (opK op)] 227).alloc (.cells #[.int .u32 (a : Int), .int .u32 (b : Int), .int .u32 (c : Int)] 154)
  have hX := Blk.new (w.alloc (.cells #[.pointer (some ⟨s, 0, none⟩), .int .u8 (op : Int), fnV (opK op)] 227)) #[.int .u32 (a : Int), .int .u32 (b : Int), .int .u32 (c : Int)] 154
  have hcf := opK_enters ho
  go_enter Tryz.func165, Tryz.ntmps165
  go_wp2_with fail
  refine (opEnds_any ho a b c _).mono ?_
  rintro e w1 ⟨rfl, hF⟩
  have F1 : Fr [] w w1 := (((Fr.refl [] w).alloc _).alloc _).then hF
  have hA1 := hA.fr hF (by simp)
  have hX1 := hX.fr hF (by simp)
  obtain ⟨p0, p1, p2⟩ := Blk3 hA1
  obtain ⟨q0, q1, q2⟩ := Blk3 hX1
  rw [World.size_alloc] at q0 q1 q2
  have h1 := h.fr F1 (by simp)
  have E1 := h1.evo F1 (by simp)
  have hE1 := Lib.hid E1
  have hD := Lib.hid hd
  clear E1 hd
  by_cases he : (Bdd.ends op a b c).2 = true
  · have hfin : DoesPost s n room off B L w op a b c (ansH (Bdd.ends op a b c).1 0) w1 := OpPost.ret (hE1.out.mono (Nat.zero_le _)) (Bdd.ends_is ho ha hb hc he)
    have HF := Lib.hid hfin
    clear hfin
    go_wp2_with fail
    go_ret2
    exact HF.out
  · have he' : (Bdd.ends op a b c).2 = false := by simpa using he
    have hln := Bdd.ends_not h.wf ho ha hb he'
    clear he
    go_wp2_with fail
    refine (sto_recall h1 (by omega) ha hb hc).mono ?_
    rintro e w2 ⟨E2, hr⟩
    rcases hr with rfl | ⟨v, rfl, hv⟩
    rotate_left
    · have hfin : DoesPost s n room off B L w op a b c (ansH v 0) w2 := OpPost.ret ((hE1.out.trans E2).mono (Nat.zero_le _)) hv
      have HF := Lib.hid hfin
      clear hfin hv
      go_wp2_with fail
      go_ret2
      exact HF.out
    · have hnA : w.heap.size ∉ B := fun hk => Nat.lt_irrefl _ (h.mem.2 _ hk)
      have hnX : (w.alloc (.cells #[.pointer (some ⟨s, 0, none⟩), .int .u8 (op : Int), fnV (opK op)] 227)).heap.size ∉ B := fun hk => by have := h.mem.2 _ hk; rw [World.size_alloc] at this; omega
      have hA2 := hA1.fr E2.fr hnA
      have hX2 := hX1.fr E2.fr hnX
      obtain ⟨p0', p1', p2'⟩ := Blk3 hA2
      obtain ⟨q0', q1', q2'⟩ := Blk3 hX2
      rw [World.size_alloc] at q0' q1' q2'
      have h2 := E2.sto
      go_wp2_with fail
      refine (sto_vars h2).mono ?_
      rintro e w' ⟨rfl, rfl⟩
      go_wp2_with fail
      refine wp_loop_rounds 4 ?_
      rw [rounds_succ]
      go_wp2_with fail
      refine (sto_level h2 ha).mono ?_
      rintro e w' ⟨rfl, rfl⟩
      go_wp2_with fail
      rw [rounds_succ]
      go_wp2_with fail
      refine (sto_level h2 hb).mono ?_
      rintro e w' ⟨rfl, rfl⟩
      go_wp2_with fail
      rw [rounds_succ]
      go_wp2_with fail
      refine (sto_level h2 hc).mono ?_
      rintro e w' ⟨rfl, rfl⟩
      go_wp2_with fail
      rw [rounds_succ]
      have hl3 : min n (min (Bdd.lev n (Bdd.tab L) a) (min (Bdd.lev n (Bdd.tab L) b) (Bdd.lev n (Bdd.tab L) c))) = lev3 n L a b c := by
        have := Bdd.lev_le h.wf a
        unfold lev3; omega
      rw [hl3]
      clear hl3
      obtain ⟨l, hl⟩ : ∃ l, lev3 n L a b c = l := ⟨_, rfl⟩
      have hln' : l < n := by rw [← hl]; exact hln
      have la : l ≤ Bdd.lev n (Bdd.tab L) a := by rw [← hl]; exact Nat.le_trans (Nat.min_le_left _ _) (Nat.min_le_left _ _)
      have lb : l ≤ Bdd.lev n (Bdd.tab L) b := by rw [← hl]; exact Nat.le_trans (Nat.min_le_left _ _) (Nat.min_le_right _ _)
      have lc : l ≤ Bdd.lev n (Bdd.tab L) c := by rw [← hl]; exact Nat.min_le_right _ _
      rw [hl]
      have HL := Lib.hid hl
      clear hl hln
      go_wp2_with fail
      obtain ⟨xa, ya, -⟩ := Bdd.chLo_spec h.wf ha la hln'
      obtain ⟨xb, yb, -⟩ := Bdd.chLo_spec h.wf hb lb hln'
      obtain ⟨xc, yc, -⟩ := Bdd.chLo_spec h.wf hc lc hln'
      refine (half_lo (P := DoesPost s n room off B L w2 op (Bdd.chLo n (Bdd.tab L) a l) (Bdd.chLo n (Bdd.tab L) b l) (Bdd.chLo n (Bdd.tab L) c l)) h2 ha hb hc hln' (fun w' hf => (hD.out w' B L _ _ _ (h2.fr hf (by simp)) xa xb xc (by rw [HL.out]; exact lt_lev3 ya yb yc)).mono fun e w'' hp => OpPost.after ((h2.fr hf (by simp)).evo hf (by simp)) hp (by omega)) (fun e w' hp => OpPost.form hp)).mono ?_
      rintro e w3 ⟨B3, L3, E3, hr⟩
      have E13 := E2.trans E3
      have hA3 := hA1.fr E13.fr hnA
      have hX3 := hX1.fr E13.fr hnX
      obtain ⟨p0_3, p1_3, p2_3⟩ := Blk3 hA3
      obtain ⟨q0_3, q1_3, q2_3⟩ := Blk3 hX3
      rw [World.size_alloc] at q0_3 q1_3 q2_3
      rcases hr with ⟨rfl, hfull⟩ | ⟨x, rfl, hx⟩
      · have hfin : DoesPost s n room off B L w op a b c (ansH 0 60) w3 := OpPost.full ((hE1.out.trans E13).mono (by rw [HL.out]; exact le_cb1 ya yb yc)) hfull
        have HF := Lib.hid hfin
        clear hfin hfull
        go_wp2_with fail
        go_ret2
        exact HF.out
      have h3 := E3.sto
      have ha3 := E3.gr.isNd ha
      have hb3 := E3.gr.isNd hb
      have hc3 := E3.gr.isNd hc
      have la3 := la; rw [← E3.gr.lev ha] at la3
      have lb3 := lb; rw [← E3.gr.lev hb] at lb3
      have lc3 := lc; rw [← E3.gr.lev hc] at lc3
      go_wp2_with fail
      obtain ⟨ua, va, -⟩ := Bdd.chHi_spec h3.wf ha3 la3 hln'
      obtain ⟨ub, vb, -⟩ := Bdd.chHi_spec h3.wf hb3 lb3 hln'
      obtain ⟨uc, vc, -⟩ := Bdd.chHi_spec h3.wf hc3 lc3 hln'
      refine (half_hi (P := DoesPost s n room off B3 L3 w3 op (Bdd.chHi n (Bdd.tab L3) a l) (Bdd.chHi n (Bdd.tab L3) b l) (Bdd.chHi n (Bdd.tab L3) c l)) h3 ha3 hb3 hc3 hln' (fun w' hf => (hD.out w' B3 L3 _ _ _ (h3.fr hf (by simp)) ua ub uc (by rw [HL.out]; exact lt_lev3 va vb vc)).mono fun e w'' hp => OpPost.after ((h3.fr hf (by simp)).evo hf (by simp)) hp (by omega)) (fun e w' hp => OpPost.form hp)).mono ?_
      rintro e w4 ⟨B4, L4, E4, hr⟩
      have E14 := E13.trans E4
      have hA4 := hA1.fr E14.fr hnA
      have hX4 := hX1.fr E14.fr hnX
      obtain ⟨p0_4, p1_4, p2_4⟩ := Blk3 hA4
      obtain ⟨q0_4, q1_4, q2_4⟩ := Blk3 hX4
      rw [World.size_alloc] at q0_4 q1_4 q2_4
      rcases hr with ⟨rfl, hfull⟩ | ⟨z, rfl, hz⟩
      · have hfin : DoesPost s n room off B L w op a b c (ansH 0 60) w4 := OpPost.full ((hE1.out.trans E14).mono (by rw [HL.out]; have := cb2 ya yb yc va vb vc; omega)) hfull
        have HF := Lib.hid hfin
        clear hfin hfull
        go_wp2_with fail
        go_ret2
        exact HF.out
      have h4 := E4.sto
      have hx4 := E4.gr.isNd hx.1
      have lx : l < Bdd.lev n (Bdd.tab L4) x := by
        rw [E4.gr.lev hx.1]
        exact is_lev h3.wf (E3.gr.isNd xa) (E3.gr.isNd xb) (E3.gr.isNd xc) hln' (by rw [E3.gr.lev xa]; exact ya) (by rw [E3.gr.lev xb]; exact yb) (by rw [E3.gr.lev xc]; exact yc) hx
      have lz : l < Bdd.lev n (Bdd.tab L4) z :=
        is_lev h4.wf (E4.gr.isNd ua) (E4.gr.isNd ub) (E4.gr.isNd uc) hln' (by rw [E4.gr.lev ua]; exact va) (by rw [E4.gr.lev ub]; exact vb) (by rw [E4.gr.lev uc]; exact vc) hz
      go_wp2_with fail
      refine (sto_mk h4 l x z hln' hx4 hz.1 lx lz).mono ?_
      rintro e w5 ⟨B5, L5, E5, hr⟩
      have E15 := E14.trans E5
      have hA5 := hA1.fr E15.fr hnA
      have hX5 := hX1.fr E15.fr hnX
      obtain ⟨p0_5, p1_5, p2_5⟩ := Blk3 hA5
      obtain ⟨q0_5, q1_5, q2_5⟩ := Blk3 hX5
      rw [World.size_alloc] at q0_5 q1_5 q2_5
      have hcb := cb2 ya yb yc va vb vc
      rcases hr with ⟨rfl, hfull⟩ | ⟨r, rfl, hm⟩
      · have hfin : DoesPost s n room off B L w op a b c (ansH 0 60) w5 := OpPost.full ((hE1.out.trans E15).mono (by rw [HL.out]; omega)) hfull
        have HF := Lib.hid hfin
        clear hfin hfull
        go_wp2_with fail
        go_ret2
        exact HF.out
      have hz' : Bdd.Is n (Bdd.tab L4) op (Bdd.chHi n (Bdd.tab L) a l) (Bdd.chHi n (Bdd.tab L) b l) (Bdd.chHi n (Bdd.tab L) c l) z := by
        rw [← Gr.chHi E3.gr ha l hln', ← Gr.chHi E3.gr hb l hln', ← Gr.chHi E3.gr hc l hln']; exact hz
      have hres : Bdd.Is n (Bdd.tab L5) op a b c r := Bdd.join_is h.wf E3.gr E4.gr E5.gr ha hb hc hln' la lb lc hx hz' hm.1 (fun q => by rw [hm.2 q, E4.gr.D h3.wf hx.1])
      go_wp2_with fail
      have g05 := (hE1.out.trans E15).gr
      refine (sto_note E5.sto ho (g05.isNd ha) (g05.isNd hb) (g05.isNd hc) hres).mono ?_
      rintro e w6 ⟨rfl, E6⟩
      have hfin : DoesPost s n room off B L w op a b c (ansH r 0) w6 := OpPost.ret (((hE1.out.trans E15).trans E6).mono (by rw [HL.out]; omega)) hres
      have HF := Lib.hid hfin
      clear hfin hres hm hz hz' hx
      go_wp2_with fail
      go_ret2
      exact HF.out
end
end Go.Proofs.YtiojnjihbidbiaaGreat
/- logic, walked: not, and, or, xor, if-then-else, a variable: what each answers. -/
namespace Go.Proofs.YtiojnjihbidbiaaGreat
open Go.RowKit
attribute [local go_sem ↓] Go.wp_at_zero Go.wp_at_succ
attribute [local go_sem ↓] run_min run_max
set_option linter.unusedVariables false

section
variable {w w' : World} {s n room : Nat} {off : Bool} {B : List Nat} {L : List Bdd.Nd}

theorem does_any {op : Nat} (ho : op = 2 ∨ op = 3 ∨ op = 4 ∨ op = 5) : ∀ (m : Nat) {w : World} {B : List Nat} {L : List Bdd.Nd} {a b c : Nat}, n - lev3 n L a b c ≤ m → Sto w s B n room off L → Bdd.IsNd (Bdd.tab L) a → Bdd.IsNd (Bdd.tab L) b → Bdd.IsNd (Bdd.tab L) c →
    Calls Tryz.prog 165 #[walkV s op (opK op), args3 a b c] w (DoesPost s n room off B L w op a b c)
  | 0, w, B, L, a, b, c, hm, h, ha, hb, hc => does_step h ho ha hb hc (fun w1 B1 L1 a1 b1 c1 h1 _ _ _ hlt => by
      have := Bdd.lev_le h1.wf a1
      have : lev3 n L1 a1 b1 c1 ≤ n := by unfold lev3; omega
      omega)
  | m + 1, w, B, L, a, b, c, hm, h, ha, hb, hc => does_step h ho ha hb hc (fun w1 B1 L1 a1 b1 c1 h1 ha1 hb1 hc1 hlt => does_any ho m (by
      have := Bdd.lev_le h1.wf a1
      have : lev3 n L1 a1 b1 c1 ≤ n := by unfold lev3; omega
      omega) h1 ha1 hb1 hc1)

set_option maxHeartbeats 1000000 in
set_option maxRecDepth 4000 in
theorem run_any (h : Sto w s B n room off L) {op a b c : Nat} (ho : op = 2 ∨ op = 3 ∨ op = 4 ∨ op = 5) (ha : Bdd.IsNd (Bdd.tab L) a) (hb : Bdd.IsNd (Bdd.tab L) b) (hc : Bdd.IsNd (Bdd.tab L) c) :
    Calls Tryz.prog 104 #[.pointer (some ⟨s, 0, none⟩), .int .u8 (op : Int), fnV (opK op), args3 a b c] w (DoesPost s n room off B L w op a b c) := by
  have i0 := idx0 a b c
  have i1 := idx1 a b c
  have i2 := idx2 a b c
  go_enter Tryz.func104, Tryz.ntmps104
  go_wp2_with fail
  refine wp_loop_rounds 4 ?_
  rw [rounds_succ]
  go_wp2_with fail
  refine (sto_isNd (h.fr ((Fr.refl [] w).alloc _) (by simp)) ha).mono ?_
  rintro e w' ⟨rfl, rfl⟩
  go_wp2_with fail
  rw [rounds_succ]
  go_wp2_with fail
  refine (sto_isNd (h.fr ((Fr.refl [] w).alloc _) (by simp)) hb).mono ?_
  rintro e w' ⟨rfl, rfl⟩
  go_wp2_with fail
  rw [rounds_succ]
  go_wp2_with fail
  refine (sto_isNd (h.fr ((Fr.refl [] w).alloc _) (by simp)) hc).mono ?_
  rintro e w' ⟨rfl, rfl⟩
  go_wp2_with fail
  rw [rounds_succ]
  go_wp2_with fail
  refine (does_any ho _ (Nat.le_refl _) (h.fr ((Fr.refl [] w).alloc _) (by simp)) ha hb hc).mono ?_
  intro e w' hp
  have hq := OpPost.after ((h.fr ((Fr.refl [] w).alloc _) (by simp)).evo ((Fr.refl [] w).alloc _) (by simp)) hp (Nat.le_of_eq (Nat.zero_add _))
  obtain ⟨x, y, rfl⟩ := OpPost.form hp
  have HQ := Lib.hid hq
  clear hq hp
  go_wp2
  go_ret2
  exact HQ.out

/-- h tells the function F. -/
def Den (n : Nat) (L : List Bdd.Nd) (h : Nat) (F : (Nat → Bool) → Bool) : Prop := Bdd.IsNd (Bdd.tab L) h ∧ ∀ y, Bdd.D n (Bdd.tab L) h y = F y

theorem Den.more {c h : Nat} {L' : List Bdd.Nd} {F : (Nat → Bool) → Bool} (d : Den n L h F) (hw : Bdd.Wf n (Bdd.tab L)) (g : Bdd.Gr n L L' c) : Den n L' h F := ⟨g.isNd d.1, fun y => by rw [g.D hw d.1]; exact d.2 y⟩
theorem Den.zero : Den n L 0 fun _ => false := ⟨Bdd.IsNd.zero _, fun y => by simp [Bdd.D_zero]⟩
theorem Den.one : Den n L 1 fun _ => true := ⟨Bdd.IsNd.one _, fun y => by simp [Bdd.D_one]⟩
theorem Den.eq {h k : Nat} {F G : (Nat → Bool) → Bool} (d : Den n L h F) (e : Den n L k G) (hw : Bdd.Wf n (Bdd.tab L)) (hf : ∀ y, F y = G y) : h = k := Bdd.eq_of_D hw d.1 e.1 fun y => by rw [d.2, e.2, hf]
theorem Den.fn {h : Nat} {F G : (Nat → Bool) → Bool} (d : Den n L h F) (hf : ∀ y, F y = G y) : Den n L h G := ⟨d.1, fun y => by rw [d.2, hf]⟩

/-- The answer of an operation that makes F. -/
abbrev FnPost (s n room : Nat) (off : Bool) (B : List Nat) (L : List Bdd.Nd) (w : World) (F : (Nat → Bool) → Bool) : Ending → World → Prop :=
  OpPost s n room off B L w 31 (fun L' h => Den n L' h F)

theorem OpPost.mono {c c' : Nat} {P Q : List Bdd.Nd → Nat → Prop} {e : Ending} (h : OpPost s n room off B L w c P e w') (hc : c ≤ c') (hp : ∀ L' c h, Bdd.Gr n L L' c → P L' h → Q L' h) : OpPost s n room off B L w c' Q e w' := by
  obtain ⟨B1, L1, hev, hr⟩ := h
  exact ⟨B1, L1, hev.mono hc, hr.imp id (fun ⟨h, e, hh⟩ => ⟨h, e, hp _ _ _ hev.gr hh⟩)⟩

/-- Where there is room it is not full. -/
theorem OpPost.ok {c : Nat} {P : List Bdd.Nd → Nat → Prop} {e : Ending} (h : OpPost s n room off B L w c P e w') (hr : Bdd.high L + c + 256 < room ∨ n ≤ 3 ∧ 256 < room) : ∃ B' L' h, Evo s n room off B L w B' L' w' c ∧ e = ansH h 0 ∧ P L' h := by
  obtain ⟨B1, L1, hev, ⟨_, hf⟩ | ⟨h, e, hp⟩⟩ := h
  · have h1 := Bdd.length_le hev.gr.wf hev.sto.vars.2
    have h2 := hev.gr.hi
    have h3 := Bdd.small_le hev.gr.wf
    rcases hr with hr | ⟨hr, hr2⟩
    · omega
    · have := h3 hr; omega
  · exact ⟨B1, L1, h, hev, e, hp⟩

theorem DoesPost.fn {op a b c : Nat} {F G H : (Nat → Bool) → Bool} {e : Ending} (hw : Bdd.Wf n (Bdd.tab L)) (da : Den n L a F) (db : Den n L b G) (dc : Den n L c H) (h : DoesPost s n room off B L w op a b c e w') : FnPost s n room off B L w (fun y => Bdd.opf op (F y) (G y) (H y)) e w' :=
  OpPost.mono h (Bdd.cb_le _) fun L' c' k g hk => ⟨hk.1, fun y => by rw [hk.2, g.D hw da.1, g.D hw db.1, g.D hw dc.1, da.2, db.2, dc.2]⟩

theorem min_max {P : Nat → Nat → Prop} (a b : Nat) (h1 : P a b) (h2 : P b a) : P (min a b) (max a b) := by
  rcases Nat.le_total a b with h | h
  · rw [Nat.min_eq_left h, Nat.max_eq_right h]; exact h1
  · rw [Nat.min_eq_right h, Nat.max_eq_left h]; exact h2

set_option maxRecDepth 4000 in
theorem and_any (h : Sto w s B n room off L) {a b : Nat} {F G : (Nat → Bool) → Bool} (da : Den n L a F) (db : Den n L b G) :
    Calls Tryz.prog 37 #[.pointer (some ⟨s, 0, none⟩), .int .u32 (a : Int), .int .u32 (b : Int)] w (FnPost s n room off B L w fun y => (F y && G y)) := by
  have key : Calls Tryz.prog 104 #[.pointer (some ⟨s, 0, none⟩), .int .u8 2, fnV 106, .agg #[.int .u32 ((min a b : Nat) : Int), .int .u32 ((max a b : Nat) : Int), .int .u32 0]] w (FnPost s n room off B L w fun y => (F y && G y)) := by
    refine min_max (P := fun x z => Calls Tryz.prog 104 #[.pointer (some ⟨s, 0, none⟩), .int .u8 2, fnV 106, .agg #[.int .u32 ((x : Nat) : Int), .int .u32 ((z : Nat) : Int), .int .u32 0]] w (FnPost s n room off B L w fun y => (F y && G y))) a b ?_ ?_
    · exact (run_any h (op := 2) (by omega) da.1 db.1 (Den.zero (n := n)).1).mono fun e w' hp => DoesPost.fn h.wf da db Den.zero hp
    · exact (run_any h (op := 2) (by omega) db.1 da.1 (Den.zero (n := n)).1).mono fun e w' hp => OpPost.mono (DoesPost.fn h.wf db da Den.zero hp) (Nat.le_refl _) fun _ _ _ _ hk => hk.fn fun y => by simp [Bdd.opf, Bool.and_comm]
  go_enter Tryz.func37, Tryz.ntmps37
  go_wp2_with fail
  refine key.mono ?_
  intro e w' hp
  obtain ⟨x, y, rfl⟩ := OpPost.form hp
  have HQ := Lib.hid hp
  clear hp key
  go_wp2
  go_ret2
  exact HQ.out

set_option maxRecDepth 4000 in
theorem or_any (h : Sto w s B n room off L) {a b : Nat} {F G : (Nat → Bool) → Bool} (da : Den n L a F) (db : Den n L b G) :
    Calls Tryz.prog 36 #[.pointer (some ⟨s, 0, none⟩), .int .u32 (a : Int), .int .u32 (b : Int)] w (FnPost s n room off B L w fun y => (F y || G y)) := by
  have key : Calls Tryz.prog 104 #[.pointer (some ⟨s, 0, none⟩), .int .u8 3, fnV 105, .agg #[.int .u32 ((min a b : Nat) : Int), .int .u32 ((max a b : Nat) : Int), .int .u32 0]] w (FnPost s n room off B L w fun y => (F y || G y)) := by
    refine min_max (P := fun x z => Calls Tryz.prog 104 #[.pointer (some ⟨s, 0, none⟩), .int .u8 3, fnV 105, .agg #[.int .u32 ((x : Nat) : Int), .int .u32 ((z : Nat) : Int), .int .u32 0]] w (FnPost s n room off B L w fun y => (F y || G y))) a b ?_ ?_
    · exact (run_any h (op := 3) (by omega) da.1 db.1 (Den.zero (n := n)).1).mono fun e w' hp => DoesPost.fn h.wf da db Den.zero hp
    · exact (run_any h (op := 3) (by omega) db.1 da.1 (Den.zero (n := n)).1).mono fun e w' hp => OpPost.mono (DoesPost.fn h.wf db da Den.zero hp) (Nat.le_refl _) fun _ _ _ _ hk => hk.fn fun y => by simp [Bdd.opf, Bool.or_comm]
  go_enter Tryz.func36, Tryz.ntmps36
  go_wp2_with fail
  refine key.mono ?_
  intro e w' hp
  obtain ⟨x, y, rfl⟩ := OpPost.form hp
  have HQ := Lib.hid hp
  clear hp key
  go_wp2
  go_ret2
  exact HQ.out

set_option maxRecDepth 4000 in
theorem xor_any (h : Sto w s B n room off L) {a b : Nat} {F G : (Nat → Bool) → Bool} (da : Den n L a F) (db : Den n L b G) :
    Calls Tryz.prog 163 #[.pointer (some ⟨s, 0, none⟩), .int .u32 (a : Int), .int .u32 (b : Int)] w (FnPost s n room off B L w fun y => (F y ^^ G y)) := by
  have key : Calls Tryz.prog 104 #[.pointer (some ⟨s, 0, none⟩), .int .u8 4, fnV 150, .agg #[.int .u32 ((min a b : Nat) : Int), .int .u32 ((max a b : Nat) : Int), .int .u32 0]] w (FnPost s n room off B L w fun y => (F y ^^ G y)) := by
    refine min_max (P := fun x z => Calls Tryz.prog 104 #[.pointer (some ⟨s, 0, none⟩), .int .u8 4, fnV 150, .agg #[.int .u32 ((x : Nat) : Int), .int .u32 ((z : Nat) : Int), .int .u32 0]] w (FnPost s n room off B L w fun y => (F y ^^ G y))) a b ?_ ?_
    · exact (run_any h (op := 4) (by omega) da.1 db.1 (Den.zero (n := n)).1).mono fun e w' hp => DoesPost.fn h.wf da db Den.zero hp
    · exact (run_any h (op := 4) (by omega) db.1 da.1 (Den.zero (n := n)).1).mono fun e w' hp => OpPost.mono (DoesPost.fn h.wf db da Den.zero hp) (Nat.le_refl _) fun _ _ _ _ hk => hk.fn fun y => by simp [Bdd.opf, Bool.xor_comm]
  go_enter Tryz.func163, Tryz.ntmps163
  go_wp2_with fail
  refine key.mono ?_
  intro e w' hp
  obtain ⟨x, y, rfl⟩ := OpPost.form hp
  have HQ := Lib.hid hp
  clear hp key
  go_wp2
  go_ret2
  exact HQ.out

set_option maxRecDepth 4000 in
theorem not_any (h : Sto w s B n room off L) {a : Nat} {F : (Nat → Bool) → Bool} (da : Den n L a F) :
    Calls Tryz.prog 81 #[.pointer (some ⟨s, 0, none⟩), .int .u32 (a : Int)] w (FnPost s n room off B L w fun y => !(F y)) := by
  have key : Calls Tryz.prog 104 #[.pointer (some ⟨s, 0, none⟩), .int .u8 4, fnV 150, .agg #[.int .u32 1, .int .u32 (a : Int), .int .u32 0]] w (FnPost s n room off B L w fun y => !(F y)) :=
    (run_any h (op := 4) (by omega) (Den.one (n := n)).1 da.1 (Den.zero (n := n)).1).mono fun e w' hp => OpPost.mono (DoesPost.fn h.wf Den.one da Den.zero hp) (Nat.le_refl _) fun _ _ _ _ hk => hk.fn fun y => by simp [Bdd.opf]
  go_enter Tryz.func81, Tryz.ntmps81
  go_wp2_with fail
  refine key.mono ?_
  intro e w' hp
  obtain ⟨x, y, rfl⟩ := OpPost.form hp
  have HQ := Lib.hid hp
  clear hp key
  go_wp2
  go_ret2
  exact HQ.out

set_option maxRecDepth 4000 in
theorem ite_any (h : Sto w s B n room off L) {a b c : Nat} {F G H : (Nat → Bool) → Bool} (da : Den n L a F) (db : Den n L b G) (dc : Den n L c H) :
    Calls Tryz.prog 103 #[.pointer (some ⟨s, 0, none⟩), .int .u32 (a : Int), .int .u32 (b : Int), .int .u32 (c : Int)] w (FnPost s n room off B L w fun y => if F y then G y else H y) := by
  have key : Calls Tryz.prog 104 #[.pointer (some ⟨s, 0, none⟩), .int .u8 5, fnV 164, args3 a b c] w (FnPost s n room off B L w fun y => if F y then G y else H y) :=
    (run_any h (op := 5) (by omega) da.1 db.1 dc.1).mono fun e w' hp => DoesPost.fn h.wf da db dc hp
  go_enter Tryz.func103, Tryz.ntmps103
  go_wp2_with fail
  refine key.mono ?_
  intro e w' hp
  obtain ⟨x, y, rfl⟩ := OpPost.form hp
  have HQ := Lib.hid hp
  clear hp key
  go_wp2
  go_ret2
  exact HQ.out

end
end Go.Proofs.YtiojnjihbidbiaaGreat

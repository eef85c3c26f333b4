/- The statements' tables, walked: a variable set. -/
import Derived.Test.YtiojnjihbidbiaaGreatTabB
namespace Go.Proofs.YtiojnjihbidbiaaGreat
open Go.RowKit
attribute [local go_sem ↓] Go.wp_at_zero Go.wp_at_succ
set_option linter.unusedVariables false

theorem Turn.start1 (H F : Fun) (w : World) : Turn H F w (w.heap.size + 1) w.heap.size 0 ((w.alloc (.cells (tcells F) 49)).alloc (.cells #[.int .u64 0, .int .u64 0, .int .u64 0, .int .u64 0] 49)) := by
  refine ⟨?_, by rw [mix_zero]; exact (Blk.new w _ _).alloc _, ((Fr.refl [] w).alloc _).alloc _, by omega, Nat.le_refl _, by omega⟩
  have := Blk.new (w.alloc (.cells (tcells F) 49)) #[.int .u64 0, .int .u64 0, .int .u64 0, .int .u64 0] 49
  rw [World.size_alloc] at this; exact this

theorem nat_and_two (j v : Nat) : j &&& 2 ^ v = if j.testBit v then 2 ^ v else 0 := by
  apply Nat.eq_of_testBit_eq
  intro k
  rw [Nat.testBit_and, testBit_two]
  by_cases e : v = k
  · subst e; cases h : j.testBit v <;> simp
  · cases h : j.testBit v <;> simp [e]
theorem and_bit (j v S : Nat) (hS : S = 2 ^ v) (hj : j < 18446744073709551616) (hb : j.testBit v = true) : bits BinOp.and IntKind.u64 (j : Int) (S : Int) = (S : Int) := by
  by_cases hs : S < 18446744073709551616
  · rw [u64_and_nat _ _ hj hs, hS, nat_and_two, if_pos hb]
  · exfalso
    have : j < 2 ^ v := by omega
    rw [Nat.testBit_lt_two_pow this] at hb; cases hb
theorem and_bit0 (j v S : Nat) (hS : S = 2 ^ v) (hv : v < 6) (hj : j < 64) (hb : j.testBit v = false) : bits BinOp.and IntKind.u64 (j : Int) (S : Int) = 0 := by
  rcases Nat.lt_or_ge v 64 with h | h
  · have hs : S < 18446744073709551616 := by rw [hS]; exact Nat.pow_lt_pow_right (n := 64) (by omega) h
    rw [u64_and_nat _ _ (by omega) hs, hS, nat_and_two, if_neg (by rw [hb]; simp)]; rfl
  · exfalso; omega
theorem or_mask (j v : Nat) (hj : j < 64) (hb : j.testBit v = true) : bits BinOp.or IntKind.u64 (maskN v j : Nat) (IntKind.u64.wrap (2 ^ j)) = ((maskN v (j + 1) : Nat) : Int) := by
  rw [or_two64 _ _ (Nat.lt_of_lt_of_le (maskN_lt v j) (Nat.pow_le_pow_right (by omega) (by omega))) hj, maskN_succ, if_pos hb]
theorem or_mask0 (j v : Nat) (hb : j.testBit v = false) : maskN v (j + 1) = maskN v j := by rw [maskN_succ, hb]; simp
theorem cast_div (A S : Nat) : (A : Int) / 2 ^ S = ((A >>> S : Nat) : Int) := by rw [Nat.shiftRight_eq_div_pow]; simp
theorem fix_true (F : Fun) (j v S M : Nat) (hv : v < 6) (hS : S = 2 ^ v) (hM : M = maskN v 64) :
    bits BinOp.or IntKind.u64 (bits BinOp.and IntKind.u64 ((wd F j : Nat) : Int) (M : Int)) (bits BinOp.and IntKind.u64 ((wd F j : Nat) : Int) (M : Int) / 2 ^ S) = ((wd (fixF F v true) j : Nat) : Int) := by
  have hMl : M < 2 ^ 64 := by rw [hM]; exact maskN_lt v 64
  have hA : wd F j &&& M < 2 ^ 64 := Nat.and_lt_two_pow _ hMl
  rw [u64_and_nat _ _ (wd_lt F j) hMl, cast_div, u64_or_nat _ _ hA (Nat.lt_of_le_of_lt (Nat.shiftRight_le _ _) hA), hS, hM, wd_fix_true F j hv]
theorem fix_false (F : Fun) (j v S M : Nat) (hv : v < 6) (hS : S = 2 ^ v) (hM : M = maskN v 64) :
    bits BinOp.or IntKind.u64 (bits BinOp.andNot IntKind.u64 ((wd F j : Nat) : Int) (M : Int)) (IntKind.u64.wrap (bits BinOp.andNot IntKind.u64 ((wd F j : Nat) : Int) (M : Int) * 2 ^ S)) = ((wd (fixF F v false) j : Nat) : Int) := by
  have hMl : M < 2 ^ 64 := by rw [hM]; exact maskN_lt v 64
  rw [u64_andNot_nat _ _ (wd_lt F j) hMl]
  have hA : wd F j &&& (18446744073709551615 - M) < 2 ^ 64 := Nat.and_lt_two_pow _ (by omega)
  have hbit : ∀ k, k < 64 → (wd F j &&& (18446744073709551615 - M)).testBit k = ((wd F j).testBit k && !(k.testBit v)) := fun k hk => by
    rw [Nat.testBit_and, show 18446744073709551615 - M = 2 ^ 64 - (M + 1) by omega, Nat.testBit_two_pow_sub_succ hMl, decide_eq_true hk, Bool.true_and, hM]
    rw [show (maskN v 64).testBit k = (decide (k < 64) && k.testBit v) from bitsN_test _ k _, decide_eq_true hk, Bool.true_and]
  generalize wd F j &&& (18446744073709551615 - M) = A at hA hbit ⊢
  obtain ⟨Q, hQ⟩ : ∃ Q : Nat, Q = A * 2 ^ S := ⟨_, rfl⟩
  have e1 : (A : Int) * 2 ^ S = (Q : Int) := by rw [hQ, Int.natCast_mul, Int.natCast_pow]; rfl
  have e2 : A <<< 2 ^ v = Q := by rw [Nat.shiftLeft_eq, ← hS, hQ]
  have hw : IntKind.u64.wrap (Q : Int) = ((Q % 2 ^ 64 : Nat) : Int) := by
    rw [show IntKind.u64.wrap (Q : Int) = (Q : Int) % 18446744073709551616 from rfl]; omega
  rw [e1, hw, ← e2, u64_or_nat _ _ hA (Nat.mod_lt _ (by omega)), wd_fix_false F j hv hA hbit]

set_option maxHeartbeats 4000000 in
set_option maxRecDepth 8000 in
theorem tfix_low_true (F : Fun) (v : Nat) (w : World) (hv : v < 6) :
    Calls Tryz.prog 107 #[tv F, .int .i64 (v : Int), .bool true] w fun e w' => e = .returned (tv (fixF F v true)) ∧ Fr [] w w' := by
  have R0 := Lib.hid (Turn.start1 (fixF F v true) F w)
  obtain ⟨S, hS⟩ : ∃ S, S = 2 ^ v := ⟨_, rfl⟩
  have hpos : 0 < S := by rw [hS]; exact Nat.two_pow_pos v
  have hS32 : S ≤ 32 := by rw [hS]; exact Nat.le_trans (Nat.pow_le_pow_right (by omega) (show v ≤ 5 by omega)) (Nat.le_refl 32)
  have hw : IntKind.u64.wrap (2 ^ v) = (S : Int) := by
    rw [show IntKind.u64.wrap ((2 : Int) ^ v) = (2 : Int) ^ v % 18446744073709551616 from rfl, show ((2 : Int) ^ v) = (S : Int) by rw [hS, Int.natCast_pow]; rfl]
    omega
  have n1 : ((S : Int) != 0) = true := by simp; omega
  have n2 : ((S : Int) == 0) = false := by simp; omega
  have HS := Lib.hid hS
  clear hS
  go_enter Tryz.func107, Tryz.ntmps107
  go_wp2_with fail
  generalize (w.alloc (.cells (tcells F) 49)).alloc (.cells #[.int .u64 0, .int .u64 0, .int .u64 0, .int .u64 0] 49) = w2 at R0 ⊢
  go_loopg [10, 12] 64 (fun k m x wr => ∃ j : Nat, j ≤ 64 ∧ k = 64 - j ∧ x = .int .u64 (j : Int) ∧ m = .int .u64 (maskN v j : Nat) ∧ w2 = wr)
  case atStart => exact ⟨0, by omega, by omega, rfl, rfl, rfl⟩
  case round =>
    obtain ⟨j, hj, hk, rfl, rfl, rfl⟩ := hrel
    by_cases hlt : j < 64
    · have hw1 : IntKind.u64.wrap ((j : Int) + 1) = (j : Int) + 1 := by rw [show IntKind.u64.wrap ((j : Int) + 1) = ((j : Int) + 1) % 18446744073709551616 from rfl]; omega
      by_cases hb : j.testBit v = true
      · have hand := and_bit j v S HS.out (by omega) hb
        have hor := or_mask j v hlt hb
        have HOR := Lib.hid hor
        clear hor hb
        go_wp2
        rw [HOR.out]
        go_roundg (64 - (j + 1))
        case measure => omega
        case rel => exact ⟨j + 1, by omega, rfl, by go_num, rfl, rfl⟩
      · have hand := and_bit0 j v S HS.out hv (by omega) (by simpa using hb)
        have hno := or_mask0 j v (by simpa using hb)
        have HNO := Lib.hid hno
        clear hno hb
        go_wp2
        go_roundg (64 - (j + 1))
        case measure => omega
        case rel => exact ⟨j + 1, by omega, rfl, by go_num, by rw [HNO.out], rfl⟩
    · have e : j = 64 := by omega
      subst e
      obtain ⟨M, hM⟩ : ∃ M, M = maskN v 64 := ⟨_, rfl⟩
      have hMlt : M < 18446744073709551616 := by rw [hM]; exact maskN_lt v 64
      rw [← hM]
      have HM := Lib.hid hM
      clear hM
      go_wp2_with fail
      go_loopg [13, 14] 4 (fun k i _ wr => ∃ j : Nat, j ≤ 4 ∧ k = 4 - j ∧ i = .int .i64 (j : Int) ∧ Turn (fixF F v true) F w (w.heap.size + 1) w.heap.size j wr)
      case atStart => exact ⟨0, by omega, by omega, rfl, R0.out⟩
      case round =>
        obtain ⟨j, hj, hk, rfl, hr⟩ := hrel
        by_cases hlt : j < 4
        · have c := hr.cell hlt
          have f := hr.tab.free j
          have HR := Lib.hid hr
          have hval := fix_true F j v S M hv HS.out HM.out
          have HV := Lib.hid hval
          clear hr hval
          go_wp2
          rw [HV.out]
          go_roundg (4 - (j + 1))
          case measure => omega
          case rel => exact ⟨j + 1, by omega, rfl, by go_num, HR.out.step hlt⟩
        · have e : j = 4 := by omega
          subst e
          have hT := hr.tab
          rw [mix_all] at hT
          have c0 := hT.cell 0 (v := .int .u64 (wd (fixF F v true) 0 : Nat)) rfl
          have c1 := hT.cell 1 (v := .int .u64 (wd (fixF F v true) 1 : Nat)) rfl
          have c2 := hT.cell 2 (v := .int .u64 (wd (fixF F v true) 2 : Nat)) rfl
          have c3 := hT.cell 3 (v := .int .u64 (wd (fixF F v true) 3 : Nat)) rfl
          have f0 := hr.res.free 0
          have f1 := hr.res.free 1
          have f2 := hr.res.free 2
          have f3 := hr.res.free 3
          have d0 := hr.res.cell 0 (v := .int .u64 0) rfl
          have d1 := hr.res.cell 1 (v := .int .u64 0) rfl
          have d2 := hr.res.cell 2 (v := .int .u64 0) rfl
          have d3 := hr.res.cell 3 (v := .int .u64 0) rfl
          have HR := Lib.hid hr
          clear hr hT
          go_wp2
          refine bodyPost_ret (results_table rfl rfl (HR.out.res.four rfl)) rfl ⟨rfl, ?_⟩
          exact (((HR.out.fr.setCell _ (.inr HR.out.le.1)).setCell _ (.inr HR.out.le.1)).setCell _ (.inr HR.out.le.1)).setCell _ (.inr HR.out.le.1)

set_option maxHeartbeats 4000000 in
set_option maxRecDepth 8000 in
theorem tfix_low_false (F : Fun) (v : Nat) (w : World) (hv : v < 6) :
    Calls Tryz.prog 107 #[tv F, .int .i64 (v : Int), .bool false] w fun e w' => e = .returned (tv (fixF F v false)) ∧ Fr [] w w' := by
  have R0 := Lib.hid (Turn.start1 (fixF F v false) F w)
  obtain ⟨S, hS⟩ : ∃ S, S = 2 ^ v := ⟨_, rfl⟩
  have hpos : 0 < S := by rw [hS]; exact Nat.two_pow_pos v
  have hS32 : S ≤ 32 := by rw [hS]; exact Nat.le_trans (Nat.pow_le_pow_right (by omega) (show v ≤ 5 by omega)) (Nat.le_refl 32)
  have hw : IntKind.u64.wrap (2 ^ v) = (S : Int) := by
    rw [show IntKind.u64.wrap ((2 : Int) ^ v) = (2 : Int) ^ v % 18446744073709551616 from rfl, show ((2 : Int) ^ v) = (S : Int) by rw [hS, Int.natCast_pow]; rfl]
    omega
  have n1 : ((S : Int) != 0) = true := by simp; omega
  have n2 : ((S : Int) == 0) = false := by simp; omega
  have HS := Lib.hid hS
  clear hS
  go_enter Tryz.func107, Tryz.ntmps107
  go_wp2_with fail
  generalize (w.alloc (.cells (tcells F) 49)).alloc (.cells #[.int .u64 0, .int .u64 0, .int .u64 0, .int .u64 0] 49) = w2 at R0 ⊢
  go_loopg [10, 12] 64 (fun k m x wr => ∃ j : Nat, j ≤ 64 ∧ k = 64 - j ∧ x = .int .u64 (j : Int) ∧ m = .int .u64 (maskN v j : Nat) ∧ w2 = wr)
  case atStart => exact ⟨0, by omega, by omega, rfl, rfl, rfl⟩
  case round =>
    obtain ⟨j, hj, hk, rfl, rfl, rfl⟩ := hrel
    by_cases hlt : j < 64
    · have hw1 : IntKind.u64.wrap ((j : Int) + 1) = (j : Int) + 1 := by rw [show IntKind.u64.wrap ((j : Int) + 1) = ((j : Int) + 1) % 18446744073709551616 from rfl]; omega
      by_cases hb : j.testBit v = true
      · have hand := and_bit j v S HS.out (by omega) hb
        have hor := or_mask j v hlt hb
        have HOR := Lib.hid hor
        clear hor hb
        go_wp2
        rw [HOR.out]
        go_roundg (64 - (j + 1))
        case measure => omega
        case rel => exact ⟨j + 1, by omega, rfl, by go_num, rfl, rfl⟩
      · have hand := and_bit0 j v S HS.out hv (by omega) (by simpa using hb)
        have hno := or_mask0 j v (by simpa using hb)
        have HNO := Lib.hid hno
        clear hno hb
        go_wp2
        go_roundg (64 - (j + 1))
        case measure => omega
        case rel => exact ⟨j + 1, by omega, rfl, by go_num, by rw [HNO.out], rfl⟩
    · have e : j = 64 := by omega
      subst e
      obtain ⟨M, hM⟩ : ∃ M, M = maskN v 64 := ⟨_, rfl⟩
      have hMlt : M < 18446744073709551616 := by rw [hM]; exact maskN_lt v 64
      rw [← hM]
      have HM := Lib.hid hM
      clear hM
      go_wp2_with fail
      go_loopg [13, 15] 4 (fun k i _ wr => ∃ j : Nat, j ≤ 4 ∧ k = 4 - j ∧ i = .int .i64 (j : Int) ∧ Turn (fixF F v false) F w (w.heap.size + 1) w.heap.size j wr)
      case atStart => exact ⟨0, by omega, by omega, rfl, R0.out⟩
      case round =>
        obtain ⟨j, hj, hk, rfl, hr⟩ := hrel
        by_cases hlt : j < 4
        · have c := hr.cell hlt
          have f := hr.tab.free j
          have HR := Lib.hid hr
          have hval := fix_false F j v S M hv HS.out HM.out
          have HV := Lib.hid hval
          clear hr hval
          go_wp2
          rw [HV.out]
          go_roundg (4 - (j + 1))
          case measure => omega
          case rel => exact ⟨j + 1, by omega, rfl, by go_num, HR.out.step hlt⟩
        · have e : j = 4 := by omega
          subst e
          have hT := hr.tab
          rw [mix_all] at hT
          have c0 := hT.cell 0 (v := .int .u64 (wd (fixF F v false) 0 : Nat)) rfl
          have c1 := hT.cell 1 (v := .int .u64 (wd (fixF F v false) 1 : Nat)) rfl
          have c2 := hT.cell 2 (v := .int .u64 (wd (fixF F v false) 2 : Nat)) rfl
          have c3 := hT.cell 3 (v := .int .u64 (wd (fixF F v false) 3 : Nat)) rfl
          have f0 := hr.res.free 0
          have f1 := hr.res.free 1
          have f2 := hr.res.free 2
          have f3 := hr.res.free 3
          have d0 := hr.res.cell 0 (v := .int .u64 0) rfl
          have d1 := hr.res.cell 1 (v := .int .u64 0) rfl
          have d2 := hr.res.cell 2 (v := .int .u64 0) rfl
          have d3 := hr.res.cell 3 (v := .int .u64 0) rfl
          have HR := Lib.hid hr
          clear hr hT
          go_wp2
          refine bodyPost_ret (results_table rfl rfl (HR.out.res.four rfl)) rfl ⟨rfl, ?_⟩
          exact (((HR.out.fr.setCell _ (.inr HR.out.le.1)).setCell _ (.inr HR.out.le.1)).setCell _ (.inr HR.out.le.1)).setCell _ (.inr HR.out.le.1)
end Go.Proofs.YtiojnjihbidbiaaGreat

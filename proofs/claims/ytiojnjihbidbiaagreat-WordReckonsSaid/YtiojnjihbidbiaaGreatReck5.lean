/- WordReckons: what the circuits compute is what numbers are. -/
import Derived.Test.YtiojnjihbidbiaaGreatReck4
namespace Go.Proofs.YtiojnjihbidbiaaGreat
open Go.RowKit
set_option linter.unusedVariables false

theorem num_add (F G : Nat → Fn) (y : Nat → Bool) : ∀ n, numOf (sumF addC F G) y n + (cry addC F G n y).toNat * 2 ^ n = numOf F y n + numOf G y n
  | 0 => by simp [numOf, cry]
  | n + 1 => by
    have ih := num_add F G y n
    simp only [numOf, sumF, cry, addC, Nat.pow_succ]
    generalize numOf (sumF addC F G) y n = S at *
    generalize numOf F y n = A at *
    generalize numOf G y n = C at *
    generalize 2 ^ n = p at *
    generalize cry addC F G n y = c at *
    cases F n y <;> cases G n y <;> cases c <;> simp at * <;> omega

theorem num_sub (F G : Nat → Fn) (y : Nat → Bool) : ∀ n, numOf (sumF subC F G) y n + numOf G y n = numOf F y n + (cry subC F G n y).toNat * 2 ^ n
  | 0 => by simp [numOf, cry]
  | n + 1 => by
    have ih := num_sub F G y n
    simp only [numOf, sumF, cry, subC, Nat.pow_succ]
    generalize numOf (sumF subC F G) y n = S at *
    generalize numOf F y n = A at *
    generalize numOf G y n = C at *
    generalize 2 ^ n = p at *
    generalize cry subC F G n y = c at *
    cases F n y <;> cases G n y <;> cases c <;> simp at * <;> omega

theorem num_eq_iff (F G : Nat → Fn) (y : Nat → Bool) : ∀ n, eqF F G n y = true ↔ numOf F y n = numOf G y n
  | 0 => by simp [numOf, eqF]
  | n + 1 => by
    have ih := num_eq_iff F G y n
    have h1 := numOf_lt F y n
    have h2 := numOf_lt G y n
    simp only [numOf, eqF, Bool.and_eq_true, ih]
    clear ih
    generalize numOf F y n = A at *
    generalize numOf G y n = C at *
    generalize 2 ^ n = p at *
    cases F n y <;> cases G n y <;> simp <;> omega
theorem num_eq (F G : Nat → Fn) (y : Nat → Bool) (n : Nat) : eqF F G n y = decide (numOf F y n = numOf G y n) := by
  have := num_eq_iff F G y n
  by_cases h : numOf F y n = numOf G y n
  · rw [this.2 h, decide_eq_true h]
  · rw [decide_eq_false h]
    cases e : eqF F G n y
    · rfl
    · exact absurd (this.1 e) h

theorem num_ite (C : Fn) (F G : Nat → Fn) (y : Nat → Bool) : ∀ n, numOf (iteF C F G) y n = if C y then numOf F y n else numOf G y n
  | 0 => by simp [numOf]
  | n + 1 => by
    have ih := num_ite C F G y n
    simp only [numOf, ih, iteF]
    cases C y <;> simp

theorem num_row (F G : Nat → Fn) (y : Nat → Bool) (i : Nat) : ∀ n, numOf (rowF F G i) y n = (G i y).toNat * 2 ^ i * numOf F y (n - i)
  | 0 => by simp [numOf]
  | n + 1 => by
    have ih := num_row F G y i n
    simp only [numOf, ih, rowF]
    by_cases h : i ≤ n
    · rw [show n + 1 - i = (n - i) + 1 by omega]
      simp only [numOf]
      have hp : 2 ^ n = 2 ^ i * 2 ^ (n - i) := by rw [← Nat.pow_add]; congr 1; omega
      cases G i y
      · simp
      · cases hF : F (n - i) y <;> simp [h]
        rw [hp, Nat.mul_add]
    · rw [show n + 1 - i = 0 by omega, show n - i = 0 by omega]
      simp [numOf, h]

/-- The low bits of a number. -/
theorem num_low (F : Nat → Fn) (y : Nat → Bool) (k : Nat) : ∀ m, numOf F y (k + m) % 2 ^ k = numOf F y k
  | 0 => Nat.mod_eq_of_lt (numOf_lt F y k)
  | m + 1 => by
    have ih := num_low F y k m
    rw [show k + (m + 1) = (k + m) + 1 by omega]
    simp only [numOf]
    rw [Nat.pow_add, Nat.mul_comm (2 ^ k) (2 ^ m), ← Nat.mul_assoc, Nat.add_mul_mod_self_right]
    exact ih

theorem num_mul (F G : Nat → Fn) (y : Nat → Bool) (n : Nat) : ∀ i, i ≤ n → numOf (mulF F G i) y n % 2 ^ n = numOf F y n * numOf G y i % 2 ^ n
  | 0, _ => by
    have : ∀ n, numOf (mulF F G 0) y n = 0 := fun n => by
      induction n with
      | zero => rfl
      | succ n ih =>
        show numOf (mulF F G 0) y n + (mulF F G 0 n y).toNat * 2 ^ n = 0
        rw [ih]; simp [mulF]
    rw [this]; simp [numOf]
  | i + 1, hi => by
    have ih := num_mul F G y n i (by omega)
    have hs := num_add (mulF F G i) (rowF F G i) y n
    have hr := num_row F G y i n
    have hl := num_low F y (n - i) i
    rw [show n - i + i = n by omega] at hl
    show numOf (sumF addC (mulF F G i) (rowF F G i)) y n % 2 ^ n = _
    have e1 : numOf (sumF addC (mulF F G i) (rowF F G i)) y n % 2 ^ n = (numOf (mulF F G i) y n + numOf (rowF F G i) y n) % 2 ^ n := by
      rw [← hs, Nat.add_mul_mod_self_right]
    have e2 : numOf (rowF F G i) y n % 2 ^ n = numOf F y n * ((G i y).toNat * 2 ^ i) % 2 ^ n := by
      rw [hr]
      have hd := Nat.div_add_mod (numOf F y n) (2 ^ (n - i))
      rw [hl] at hd
      have hp : 2 ^ n = 2 ^ (n - i) * 2 ^ i := by rw [← Nat.pow_add]; congr 1; omega
      conv => rhs; rw [← hd]
      rw [Nat.add_mul]
      have : 2 ^ (n - i) * (numOf F y n / 2 ^ (n - i)) * ((G i y).toNat * 2 ^ i) = (numOf F y n / 2 ^ (n - i) * (G i y).toNat) * 2 ^ n := by
        rw [hp]; ac_rfl
      rw [this, Nat.mul_add_mod_self_right, Nat.mul_comm]
    rw [e1, Nat.add_mod, ih, e2, ← Nat.add_mod, numOf, Nat.mul_add]

/-- Numbers of at most four bits, as the words of the program reckon them. -/
theorem bits_low (n a : Nat) (hn : n ≤ 4) (ha : a < 9223372036854775808) : bits BinOp.and IntKind.i64 (a : Int) ((2 ^ n - 1 : Nat) : Int) = ((a % 2 ^ n : Nat) : Int) := by
  have h2 : (2 : Nat) ^ n ≤ 2 ^ 4 := Nat.pow_le_pow_right (by omega) hn
  have e : (2 : Nat) ^ 4 = 16 := by decide
  rw [i64_and_nat _ _ ha (by omega), Nat.and_two_pow_sub_one_eq_mod]

theorem bits_neg : ∀ n : Nat, n ≤ 4 → ∀ k : Nat, k < 16 → bits BinOp.and IntKind.i64 (-(k : Int)) ((2 ^ n - 1 : Nat) : Int) = (((16 - k) % 2 ^ n : Nat) : Int) := by decide +kernel

theorem bits_sub (n U V S : Nat) (c : Bool) (hn : n ≤ 4) (hU : U < 2 ^ n) (hV : V < 2 ^ n) (hS : S < 2 ^ n) (h : S + V = U + c.toNat * 2 ^ n) : bits BinOp.and IntKind.i64 ((U : Int) - (V : Int)) ((2 ^ n - 1 : Nat) : Int) = (S : Int) := by
  have h2 : (2 : Nat) ^ n ≤ 2 ^ 4 := Nat.pow_le_pow_right (by omega) hn
  have e : (2 : Nat) ^ 4 = 16 := by decide
  have hd : 16 % 2 ^ n = 0 := by
    have : n = 0 ∨ n = 1 ∨ n = 2 ∨ n = 3 ∨ n = 4 := by omega
    rcases this with rfl | rfl | rfl | rfl | rfl <;> rfl
  cases c
  · have h' : S + V = U := by simpa using h
    rw [show (U : Int) - (V : Int) = (S : Int) by omega, bits_low n S hn (by omega), Nat.mod_eq_of_lt hS]
  · have h' : S + V = U + 2 ^ n := by simpa using h
    rw [show (U : Int) - (V : Int) = -((V - U : Nat) : Int) by omega, bits_neg n hn (V - U) (by omega)]
    have h3 : 16 - (V - U) = S + (16 - 2 ^ n) := by omega
    have h4 : (16 - 2 ^ n) % 2 ^ n = 0 := by
      have : n = 0 ∨ n = 1 ∨ n = 2 ∨ n = 3 ∨ n = 4 := by omega
      rcases this with rfl | rfl | rfl | rfl | rfl <;> rfl
    rw [h3, Nat.add_mod, h4, Nat.add_zero, Nat.mod_mod, Nat.mod_eq_of_lt hS]

theorem FL_range (F : Nat → Fn) (y : Nat → Bool) {n : Nat} : ∀ m, m ≤ n → numOf (FL (rangeF F n)) y m = numOf F y m
  | 0, _ => rfl
  | m + 1, h => by
    have e : FL (rangeF F n) m = F m := FL_get (by unfold rangeF; rw [List.getElem?_map, List.getElem?_range (by omega)]; rfl)
    have ih := FL_range F y (n := n) m (by omega)
    simp only [numOf, ih, e]
end Go.Proofs.YtiojnjihbidbiaaGreat

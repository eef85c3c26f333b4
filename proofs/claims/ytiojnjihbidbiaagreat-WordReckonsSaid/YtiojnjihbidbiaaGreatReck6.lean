/- WordReckons: what one round asks. -/
import Derived.Test.YtiojnjihbidbiaaGreatReck5
namespace Go.Proofs.YtiojnjihbidbiaaGreat
open Go.RowKit
set_option linter.unusedVariables false

/-- A slice of four tables. -/
structure FourT (w : World) (g b0 b1 b2 b3 : Nat) (A B C D : Fun) : Prop where
  c0 : w.cell? ⟨g, 0, none⟩ = some (.slice (some ⟨b0, 0, none⟩) 256 256)
  c1 : w.cell? ⟨g, 1, none⟩ = some (.slice (some ⟨b1, 0, none⟩) 256 256)
  c2 : w.cell? ⟨g, 2, none⟩ = some (.slice (some ⟨b2, 0, none⟩) 256 256)
  c3 : w.cell? ⟨g, 3, none⟩ = some (.slice (some ⟨b3, 0, none⟩) 256 256)
  t0 : Blk w b0 (bcells A 256) 4
  t1 : Blk w b1 (bcells B 256) 4
  t2 : Blk w b2 (bcells C 256) 4
  t3 : Blk w b3 (bcells D 256) 4

section
variable {w w' : World} {g b0 b1 b2 b3 : Nat} {A B C D : Fun} {v : Value}
theorem FourT.fr (h : FourT w g b0 b1 b2 b3 A B C D) (f : Fr [] w w') : FourT w' g b0 b1 b2 b3 A B C D :=
  ⟨f.cell h.c0 (by simp), f.cell h.c1 (by simp), f.cell h.c2 (by simp), f.cell h.c3 (by simp), h.t0.fr f (by simp), h.t1.fr f (by simp), h.t2.fr f (by simp), h.t3.fr f (by simp)⟩

theorem BtsAt.four (h : BtsAt w v [A, B, C, D]) : ∃ g cap b0 b1 b2 b3, v = .slice (some ⟨g, 0, none⟩) 4 cap ∧ FourT w g b0 b1 b2 b3 A B C D := by
  obtain ⟨g, cap, b0, e0, c0, t0⟩ := h.get (i := 0) (F := A) rfl
  obtain ⟨g1, cap1, b1, e1, c1, t1⟩ := h.get (i := 1) (F := B) rfl
  obtain ⟨g2, cap2, b2, e2, c2, t2⟩ := h.get (i := 2) (F := C) rfl
  obtain ⟨g3, cap3, b3, e3, c3, t3⟩ := h.get (i := 3) (F := D) rfl
  obtain ⟨rfl, rfl⟩ : g = g1 ∧ cap = cap1 := by rw [e0] at e1; simpa using e1
  obtain ⟨rfl, rfl⟩ : g = g2 ∧ cap = cap2 := by rw [e0] at e2; simpa using e2
  obtain ⟨rfl, rfl⟩ : g = g3 ∧ cap = cap3 := by rw [e0] at e3; simpa using e3
  exact ⟨g, cap, b0, b1, b2, b3, e0, c0, c1, c2, c3, t0, t1, t2, t3⟩

theorem four_list (a b c d : Fn) : rangeF (fourF a b c d) 4 = [a, b, c, d] := rfl

/-- The cells of a round. -/
theorem FourT.at (h : FourT w g b0 b1 b2 b3 A B C D) {y : Nat} (hy : y < 256) : w.cell? ⟨b0, y, none⟩ = some (.bool (A (asg y))) ∧ w.cell? ⟨b1, y, none⟩ = some (.bool (B (asg y))) ∧ w.cell? ⟨b2, y, none⟩ = some (.bool (C (asg y))) ∧ w.cell? ⟨b3, y, none⟩ = some (.bool (D (asg y))) := by
  have key : ∀ (b : Nat) (X : Fun), Blk w b (bcells X 256) 4 → w.cell? ⟨b, y, none⟩ = some (.bool (X (asg y))) := fun b X hb => by
    have := hb.cell y (bcells_get X 256 hy)
    rwa [decide_eq_true hy, Bool.true_and] at this
  exact ⟨key _ _ h.t0, key _ _ h.t1, key _ _ h.t2, key _ _ h.t3⟩

/-- All that a round compares. -/
structure Reck (M U V N1 N2 N3 N4 W : Nat) (c o u e : Bool) : Prop where
  m16 : M < 16
  u16 : U < 16
  v16 : V < 16
  w : (U : Int) * (V : Int) = (W : Int)
  w256 : W < 256
  add : bits BinOp.and IntKind.i64 ((U : Int) + (V : Int)) (M : Int) = (N1 : Int)
  sub : bits BinOp.and IntKind.i64 ((U : Int) - (V : Int)) (M : Int) = (N2 : Int)
  mul : bits BinOp.and IntKind.i64 (W : Int) (M : Int) = (N3 : Int)
  ite : N4 = if c then U else V
  o : o = decide ((M : Int) < (U : Int) + (V : Int))
  u : u = decide ((U : Int) < (V : Int))
  e : e = ((U : Int) == (V : Int))

theorem reck (n : Nat) {M : Nat} (hn : n ≤ 4) (hM : M = 2 ^ n - 1) (C : Fn) (F G : Nat → Fn) (y : Nat → Bool) :
    Reck M (numOf F y n) (numOf G y n) (numOf (sumF addC F G) y n) (numOf (sumF subC F G) y n) (numOf (mulF F G n) y n) (numOf (iteF C F G) y n) (numOf F y n * numOf G y n) (C y) (cry addC F G n y) (cry subC F G n y) (eqF F G n y) := by
  subst hM
  have h2 : (2 : Nat) ^ n ≤ 2 ^ 4 := Nat.pow_le_pow_right (by omega) hn
  have e4 : (2 : Nat) ^ 4 = 16 := by decide
  have hU := numOf_lt F y n
  have hV := numOf_lt G y n
  have hS := numOf_lt (sumF addC F G) y n
  have hD := numOf_lt (sumF subC F G) y n
  have hM := numOf_lt (mulF F G n) y n
  have a := num_add F G y n
  have d := num_sub F G y n
  have m := num_mul F G y n n (Nat.le_refl n)
  have hp := Nat.two_pow_pos n
  have hUV : numOf F y n * numOf G y n < 256 := by
    have : numOf F y n * numOf G y n ≤ 15 * 15 := Nat.mul_le_mul (by omega) (by omega)
    omega
  refine ⟨by omega, by omega, by omega, by rw [Int.natCast_mul], hUV, ?_, bits_sub n _ _ _ _ hn hU hV hD d, ?_, num_ite C F G y n, ?_, ?_, ?_⟩
  · rw [← Int.natCast_add, bits_low n _ hn (by omega), ← a, Nat.add_mul_mod_self_right, Nat.mod_eq_of_lt hS]
  · rw [bits_low n _ hn (by omega), ← m, Nat.mod_eq_of_lt hM]
  · cases h : cry addC F G n y
    · rw [h] at a; simp at a
      exact (decide_eq_false (by omega)).symm
    · rw [h] at a; simp at a
      exact (decide_eq_true (by omega)).symm
  · cases h : cry subC F G n y
    · rw [h] at d; simp at d
      exact (decide_eq_false (by omega)).symm
    · rw [h] at d; simp at d
      exact (decide_eq_true (by omega)).symm
  · rw [num_eq]
    by_cases h : numOf F y n = numOf G y n
    · rw [decide_eq_true h, yz h]
    · rw [decide_eq_false h, ne_test h]

theorem low_m (n : Nat) (h : 1 ≤ n) (h4 : n ≤ 4) : wrap64 (wrap64 (2 ^ n) - 1) = ((2 ^ n - 1 : Nat) : Int) := by
  have : n = 1 ∨ n = 2 ∨ n = 3 ∨ n = 4 := by omega
  rcases this with rfl | rfl | rfl | rfl <;> first | decide | decide +kernel | simp [wrap64]

theorem at_n {Fs : List Fun} {n x : Nat} (hT : TabsAt w v Fs) (hl : Fs.length = n) (hn : n ≤ 4) (hx : x < 256) :
    Calls Tryz.prog 42 #[v, .int .u8 (x : Int)] w fun e w' => e = .returned (.int .i64 (numOf (FL Fs) (asg x) n : Nat)) ∧ Fr [] w w' := by
  subst hl; exact at_any Fs v x w hT hn hx

theorem value_n {F : Nat → Fn} {n x : Nat} (h : BtsAt w v (rangeF F n)) (hn : n ≤ 4) (hx : x < 256) :
    Calls Tryz.prog 44 #[v, .int .i64 (x : Int)] w fun e w' => e = .returned (.int .i64 (numOf F (asg x) n : Nat)) ∧ w = w' := by
  have := bvalue_any (rangeF F n) v x w h (by rw [rangeF_len]; exact hn) hx
  rw [rangeF_len, FL_range F (asg x) n (Nat.le_refl n)] at this
  exact this
end
end Go.Proofs.YtiojnjihbidbiaaGreat

/- Functions of eight variables as tables of 256 bits in four words. No program. -/
import Derived.Test.YtiojnjihbidbiaaGreatBaseA
namespace Go.Proofs.YtiojnjihbidbiaaGreat

/-- The number of m bits that p tells. -/
def bitsN (p : Nat → Bool) : Nat → Nat
  | 0 => 0
  | m + 1 => 2 ^ m * (p m).toNat + bitsN p m

theorem bitsN_lt (p : Nat → Bool) : ∀ m, bitsN p m < 2 ^ m
  | 0 => by simp [bitsN]
  | m + 1 => by
    have h := bitsN_lt p m
    have hb := Bool.toNat_le (p m)
    have : 2 ^ m * (p m).toNat ≤ 2 ^ m := by
      rcases Nat.le_one_iff_eq_zero_or_eq_one.1 hb with e | e <;> rw [e] <;> simp
    rw [bitsN, Nat.pow_succ]; omega

theorem bitsN_test (p : Nat → Bool) (j : Nat) : ∀ m, (bitsN p m).testBit j = (decide (j < m) && p j)
  | 0 => by simp [bitsN]
  | m + 1 => by
    rw [bitsN, Nat.testBit_two_pow_mul_add _ (bitsN_lt p m)]
    by_cases h : j < m
    · rw [if_pos h, bitsN_test p j m, decide_eq_true h, decide_eq_true (show j < m + 1 by omega)]
    · rw [if_neg h, Nat.testBit_bool_toNat]
      by_cases e : j = m
      · subst e; simp
      · have h1 : ¬ j - m = 0 := by omega
        have h2 : ¬ j < m + 1 := by omega
        simp [h1, h2]

theorem bitsN_of {a m : Nat} {p : Nat → Bool} (ha : a < 2 ^ m) (h : ∀ j, j < m → a.testBit j = p j) : a = bitsN p m := by
  apply Nat.eq_of_testBit_eq
  intro j
  rw [bitsN_test]
  by_cases hj : j < m
  · rw [h j hj, decide_eq_true hj, Bool.true_and]
  · rw [decide_eq_false hj, Bool.false_and]
    exact Nat.testBit_lt_two_pow (Nat.lt_of_lt_of_le ha (Nat.pow_le_pow_right (by omega) (by omega)))

theorem bitsN_congr {p q : Nat → Bool} {m : Nat} (h : ∀ j, j < m → p j = q j) : bitsN p m = bitsN q m :=
  bitsN_of (bitsN_lt p m) fun j hj => by rw [bitsN_test, decide_eq_true hj, Bool.true_and, h j hj]

/-- A function of the values of variables. -/
abbrev Fun := (Nat → Bool) → Bool

/-- An assignment's values. -/
def asg (x : Nat) : Nat → Bool := fun v => x.testBit v
/-- The assignment of eight values. -/
def pack (y : Nat → Bool) : Nat := bitsN y 8
theorem pack_lt (y : Nat → Bool) : pack y < 256 := bitsN_lt y 8
theorem pack_test (y : Nat → Bool) {v : Nat} (hv : v < 8) : (pack y).testBit v = y v := by
  unfold pack; rw [bitsN_test, decide_eq_true hv, Bool.true_and]
theorem pack_asg {x : Nat} (hx : x < 256) : pack (asg x) = x := (bitsN_of (m := 8) hx fun _ _ => rfl).symm
theorem asg_pack (y : Nat → Bool) {v : Nat} (hv : v < 8) : asg (pack y) v = y v := pack_test y hv
theorem asg_far {x v : Nat} (hx : x < 256) (hv : 8 ≤ v) : asg x v = false :=
  Nat.testBit_lt_two_pow (Nat.lt_of_lt_of_le hx (Nat.pow_le_pow_right (n := 2) (i := 8) (by omega) hv))

/-- F hangs on the first n variables alone. -/
def Dep (n : Nat) (F : Fun) : Prop := ∀ y z, (∀ v, v < n → y v = z v) → F y = F z
theorem Dep.mono {n m : Nat} {F : Fun} (h : Dep n F) (hm : n ≤ m) : Dep m F := fun y z hy => h y z fun v hv => hy v (by omega)
theorem Dep.pack {n : Nat} {F : Fun} (h : Dep n F) (hn : n ≤ 8) (y : Nat → Bool) : F (asg (pack y)) = F y := h _ _ fun _ hv => asg_pack y (by omega)
theorem Dep.all {F G : Fun} (hF : Dep 8 F) (hG : Dep 8 G) (h : ∀ x, x < 256 → F (asg x) = G (asg x)) (y : Nat → Bool) : F y = G y := by
  rw [← hF.pack (Nat.le_refl 8) y, ← hG.pack (Nat.le_refl 8) y]; exact h _ (pack_lt y)

/-- Word i of a function's table. -/
def wd (F : Fun) (i : Nat) : Nat := bitsN (fun j => F (asg (64 * i + j))) 64
theorem wd_lt (F : Fun) (i : Nat) : wd F i < 2 ^ 64 := bitsN_lt _ 64
theorem wd_test (F : Fun) (i : Nat) {j : Nat} (hj : j < 64) : (wd F i).testBit j = F (asg (64 * i + j)) := by
  unfold wd; rw [bitsN_test, decide_eq_true hj, Bool.true_and]
theorem wd_of {a i : Nat} {F : Fun} (ha : a < 2 ^ 64) (h : ∀ j, j < 64 → a.testBit j = F (asg (64 * i + j))) : a = wd F i := bitsN_of ha h
theorem wd_eval (F : Fun) {x : Nat} : (wd F (x / 64)).testBit (x % 64) = F (asg x) := by
  rw [wd_test F _ (Nat.mod_lt _ (by omega)), Nat.div_add_mod]
theorem wd_congr {F G : Fun} {i : Nat} (h : ∀ x, x < 256 → F (asg x) = G (asg x)) (hi : i < 4) : wd F i = wd G i := bitsN_congr fun j hj => h _ (by omega)
theorem wd_inj {F G : Fun} (h : ∀ i, i < 4 → wd F i = wd G i) : ∀ x, x < 256 → F (asg x) = G (asg x) := fun x hx => by
  rw [← wd_eval F, ← wd_eval G, h (x / 64) (by omega)]

/-- The function of four words. -/
def fn4 (a b c d : Nat) : Fun := fun y => (if pack y / 64 = 0 then a else if pack y / 64 = 1 then b else if pack y / 64 = 2 then c else d).testBit (pack y % 64)
theorem fn4_dep (a b c d : Nat) : Dep 8 (fn4 a b c d) := fun y z h => by
  have : pack y = pack z := bitsN_congr h
  unfold fn4; rw [this]
theorem fn4_wd {a b c d : Nat} (ha : a < 2 ^ 64) (hb : b < 2 ^ 64) (hc : c < 2 ^ 64) (hd : d < 2 ^ 64) :
    wd (fn4 a b c d) 0 = a ∧ wd (fn4 a b c d) 1 = b ∧ wd (fn4 a b c d) 2 = c ∧ wd (fn4 a b c d) 3 = d := by
  have key : ∀ i j, i < 4 → j < 64 → fn4 a b c d (asg (64 * i + j)) = (if i = 0 then a else if i = 1 then b else if i = 2 then c else d).testBit j := fun i j hi hj => by
    unfold fn4
    rw [pack_asg (by omega), show (64 * i + j) / 64 = i by omega, show (64 * i + j) % 64 = j by omega]
  exact ⟨(wd_of ha fun j hj => (key 0 j (by omega) hj).symm).symm, (wd_of hb fun j hj => (key 1 j (by omega) hj).symm).symm, (wd_of hc fun j hj => (key 2 j (by omega) hj).symm).symm, (wd_of hd fun j hj => (key 3 j (by omega) hj).symm).symm⟩

/-! What is done with tables, word by word. -/
theorem wd_and (F G : Fun) (i : Nat) : wd F i &&& wd G i = wd (fun y => F y && G y) i :=
  wd_of (Nat.and_lt_two_pow _ (wd_lt G i)) fun j hj => by rw [Nat.testBit_and, wd_test F i hj, wd_test G i hj]
theorem wd_or (F G : Fun) (i : Nat) : wd F i ||| wd G i = wd (fun y => F y || G y) i :=
  wd_of (Nat.or_lt_two_pow (wd_lt F i) (wd_lt G i)) fun j hj => by rw [Nat.testBit_or, wd_test F i hj, wd_test G i hj]
theorem wd_xor (F G : Fun) (i : Nat) : wd F i ^^^ wd G i = wd (fun y => F y ^^ G y) i :=
  wd_of (Nat.xor_lt_two_pow (wd_lt F i) (wd_lt G i)) fun j hj => by rw [Nat.testBit_xor, wd_test F i hj, wd_test G i hj]
theorem wd_not (F : Fun) (i : Nat) : 2 ^ 64 - (wd F i + 1) = wd (fun y => !(F y)) i :=
  wd_of (by have := wd_lt F i; omega) fun j hj => by rw [Nat.testBit_two_pow_sub_succ (wd_lt F i), decide_eq_true hj, Bool.true_and, wd_test F i hj]
theorem wd_zero (i : Nat) : wd (fun _ => false) i = 0 := (wd_of (by omega) fun j _ => by simp).symm
theorem wd_ones (i : Nat) : wd (fun _ => true) i = 2 ^ 64 - 1 := (wd_of (by omega) fun j hj => by rw [Nat.testBit_two_pow_sub_one, decide_eq_true hj]).symm

/-! A variable set. -/
theorem testBit_two (v j : Nat) : (2 ^ v).testBit j = decide (v = j) := Nat.testBit_two_pow
def setv (x v : Nat) (b : Bool) : Nat := x ^^^ (if x.testBit v = b then 0 else 2 ^ v)
theorem setv_test (x v : Nat) (b : Bool) (j : Nat) : (setv x v b).testBit j = if j = v then b else x.testBit j := by
  unfold setv
  rw [Nat.testBit_xor]
  by_cases h : x.testBit v = b
  · rw [if_pos h]
    by_cases e : j = v
    · subst e; simp [h]
    · simp [e]
  · rw [if_neg h, testBit_two]
    by_cases e : j = v
    · subst e; rw [if_pos rfl]; revert h; cases x.testBit j <;> cases b <;> simp
    · have : ¬ v = j := fun k => e k.symm
      simp [e, this]
theorem setv_lt {x v m : Nat} {b : Bool} (hx : x < 2 ^ m) (hv : v < m) : setv x v b < 2 ^ m := by
  unfold setv
  refine Nat.xor_lt_two_pow hx ?_
  split
  · exact Nat.two_pow_pos m
  · exact Nat.pow_lt_pow_right (by omega) hv
theorem asg_setv (x v : Nat) (b : Bool) : asg (setv x v b) = Bdd.upd (asg x) v b := by
  funext j
  show (setv x v b).testBit j = _
  rw [setv_test]; rfl
theorem add_test {i j v : Nat} (hj : j < 64) : (64 * i + j).testBit v = if v < 6 then j.testBit v else i.testBit (v - 6) :=
  Nat.testBit_two_pow_mul_add (i := 6) i hj v
theorem setv_low {i j v : Nat} {b : Bool} (hj : j < 64) (hv : v < 6) : setv (64 * i + j) v b = 64 * i + setv j v b := by
  apply Nat.eq_of_testBit_eq
  intro k
  rw [setv_test, add_test hj, add_test (setv_lt (m := 6) hj hv), setv_test]
  by_cases e : k = v
  · subst e; simp [hv]
  · simp [e]
theorem setv_high {i j v : Nat} {b : Bool} (hj : j < 64) (hv : 6 ≤ v) : setv (64 * i + j) v b = 64 * setv i (v - 6) b + j := by
  apply Nat.eq_of_testBit_eq
  intro k
  rw [setv_test, add_test hj, add_test hj, setv_test]
  by_cases e : k = v
  · subst e; simp [show ¬ k < 6 by omega]
  · by_cases h : k < 6
    · simp [e, h]
    · simp [e, h, show ¬ k - 6 = v - 6 by omega]

/-- A function with a variable set. -/
def fixF (F : Fun) (v : Nat) (b : Bool) : Fun := fun y => F (Bdd.upd y v b)
theorem wd_fix_high (F : Fun) (i : Nat) {v : Nat} (b : Bool) (hv : 6 ≤ v) : wd (fixF F v b) i = wd F (setv i (v - 6) b) :=
  bitsN_congr fun j hj => by
    show F (Bdd.upd (asg (64 * i + j)) v b) = _
    rw [← asg_setv, setv_high hj hv]
theorem wd_fix_low (F : Fun) (i : Nat) {v j : Nat} (b : Bool) (hv : v < 6) (hj : j < 64) : (wd (fixF F v b) i).testBit j = (wd F i).testBit (setv j v b) := by
  rw [wd_test _ i hj, wd_test _ i (setv_lt (m := 6) hj hv), ← setv_low hj hv, asg_setv]
  rfl

/-- The mask of the numbers below 64 in which a bit is set, as far as x. -/
def maskN (v x : Nat) : Nat := bitsN (fun j => j.testBit v) x
theorem maskN_succ (v x : Nat) : maskN v (x + 1) = if x.testBit v then maskN v x ||| 2 ^ x else maskN v x := by
  apply Nat.eq_of_testBit_eq
  intro j
  have h1 : (maskN v (x + 1)).testBit j = (decide (j < x + 1) && j.testBit v) := bitsN_test _ j _
  have h0 : (maskN v x).testBit j = (decide (j < x) && j.testBit v) := bitsN_test _ j _
  rw [h1]
  by_cases hx : x.testBit v = true
  · rw [if_pos hx, Nat.testBit_or, h0, testBit_two]
    by_cases e : j = x
    · subst e; simp [hx]
    · have e' : ¬ x = j := fun k => e k.symm
      by_cases hl : j < x
      · simp [hl, e', show j < x + 1 by omega]
      · simp [hl, e', show ¬ j < x + 1 by omega]
  · rw [if_neg hx, h0]
    by_cases e : j = x
    · subst e
      have : j.testBit v = false := by simpa using hx
      simp [this]
    · by_cases hl : j < x
      · simp [hl, show j < x + 1 by omega]
      · simp [hl, show ¬ j < x + 1 by omega]
theorem maskN_lt (v x : Nat) : maskN v x < 2 ^ x := bitsN_lt _ x

theorem xor_two {j v : Nat} : (j ^^^ 2 ^ v).testBit v = !(j.testBit v) := by rw [Nat.testBit_xor, testBit_two]; simp

/-- j with bit v set, where it isn't: 2^v more. -/
theorem setv_add {j v : Nat} (h : j.testBit v = false) : setv j v true = j + 2 ^ v := by
  unfold setv
  rw [if_neg (by rw [h]; simp)]
  have pos := Nat.two_pow_pos v
  have hm : j / 2 ^ v % 2 = 0 := by
    rw [Nat.testBit_eq_decide_div_mod_eq] at h
    simp at h; omega
  have hr := Nat.mod_lt j pos
  have e1 : 2 ^ v * (j / 2 ^ v) + j % 2 ^ v = j := Nat.div_add_mod _ _
  generalize j / 2 ^ v = q at hm e1
  generalize j % 2 ^ v = r at hr e1
  have e2 : j + 2 ^ v = 2 ^ v * (q + 1) + r := by rw [Nat.mul_add]; omega
  apply Nat.eq_of_testBit_eq
  intro k
  rw [e2, Nat.testBit_xor, testBit_two, ← e1, Nat.testBit_two_pow_mul_add _ hr, Nat.testBit_two_pow_mul_add _ hr]
  by_cases hk : k < v
  · rw [if_pos hk, if_pos hk, decide_eq_false (by omega), Bool.xor_false]
  · rw [if_neg hk, if_neg hk]
    obtain ⟨m, rfl⟩ : ∃ m, q = 2 * m := ⟨q / 2, by omega⟩
    by_cases e : v = k
    · subst e
      rw [Nat.sub_self, decide_eq_true rfl, Nat.testBit_zero, Nat.testBit_zero]
      simp
    · obtain ⟨t, ht⟩ : ∃ t, k - v = t + 1 := ⟨k - v - 1, by omega⟩
      rw [ht, decide_eq_false e, Bool.xor_false, Nat.testBit_succ, Nat.testBit_succ, show (2 * m + 1) / 2 = 2 * m / 2 by omega]
theorem setv_same {j v : Nat} {b : Bool} (h : j.testBit v = b) : setv j v b = j := by unfold setv; rw [if_pos h, Nat.xor_zero]

/-- The words of a function with a low variable set to 1. -/
theorem wd_fix_true (F : Fun) (i : Nat) {v : Nat} (hv : v < 6) : (wd F i &&& maskN v 64) ||| (wd F i &&& maskN v 64) >>> 2 ^ v = wd (fixF F v true) i := by
  have hlt : wd F i &&& maskN v 64 < 2 ^ 64 := Nat.and_lt_two_pow _ (maskN_lt v 64)
  have hm : ∀ k, (wd F i &&& maskN v 64).testBit k = ((wd F i).testBit k && (decide (k < 64) && k.testBit v)) := fun k => by
    rw [Nat.testBit_and]; congr 1; exact bitsN_test _ k _
  refine wd_of (Nat.or_lt_two_pow hlt (Nat.lt_of_le_of_lt (Nat.shiftRight_le _ _) hlt)) fun j hj => ?_
  rw [← wd_test (fixF F v true) i hj, wd_fix_low F i true hv hj, Nat.testBit_or, Nat.testBit_shiftRight, hm, hm, Nat.add_comm (2 ^ v) j]
  cases h : j.testBit v
  · have e := setv_add h
    have t : (j + 2 ^ v).testBit v = true := by rw [← e, setv_test, if_pos rfl]
    have l : j + 2 ^ v < 64 := by rw [← e]; exact setv_lt (m := 6) hj hv
    rw [e, t]; simp [l]
  · have e := setv_same h
    rw [e]
    have pos := Nat.two_pow_pos v
    cases h2 : (j + 2 ^ v).testBit v
    · simp [hj]
    · exfalso
      -- adding 2^v to a number whose bit v is set clears it
      have e2 : j = setv j v false + 2 ^ v := by
        have k1 : (setv j v false).testBit v = false := by rw [setv_test, if_pos rfl]
        have k2 := setv_add k1
        have k3 : setv (setv j v false) v true = j := by
          apply Nat.eq_of_testBit_eq
          intro k
          rw [setv_test, setv_test]
          by_cases e : k = v
          · subst e; simp [h]
          · simp [e]
        rw [k3] at k2; exact k2
      have k1 : (setv j v false).testBit v = false := by rw [setv_test, if_pos rfl]
      rw [Nat.testBit_eq_decide_div_mod_eq] at h2 k1
      rw [e2] at h2
      generalize setv j v false = q at h2 k1
      rw [show q + 2 ^ v + 2 ^ v = q + 2 ^ v * 2 by omega, Nat.add_mul_div_left _ _ pos] at h2
      simp at h2 k1
      omega

/-- The words of a function with a low variable set to 0. -/
theorem wd_fix_false (F : Fun) (i : Nat) {v a : Nat} (hv : v < 6) (ha : a < 2 ^ 64) (hbit : ∀ k, k < 64 → a.testBit k = ((wd F i).testBit k && !(k.testBit v))) : a ||| (a <<< 2 ^ v % 2 ^ 64) = wd (fixF F v false) i := by
  refine wd_of (Nat.or_lt_two_pow ha (Nat.mod_lt _ (Nat.two_pow_pos 64))) fun j hj => ?_
  rw [← wd_test (fixF F v false) i hj, wd_fix_low F i false hv hj, Nat.testBit_or, Nat.testBit_mod_two_pow, Nat.testBit_shiftLeft, decide_eq_true hj, Bool.true_and, hbit j hj]
  cases h : j.testBit v
  · rw [setv_same h]
    by_cases hl : 2 ^ v ≤ j
    · rw [decide_eq_true hl, Bool.true_and, hbit _ (Nat.lt_of_le_of_lt (Nat.sub_le _ _) hj)]
      have t : (j - 2 ^ v).testBit v = true := by
        cases k1 : (j - 2 ^ v).testBit v
        · have := setv_add k1
          rw [Nat.sub_add_cancel hl] at this
          have h3 : (setv (j - 2 ^ v) v true).testBit v = true := by rw [setv_test, if_pos rfl]
          rw [this, h] at h3; cases h3
        · rfl
      rw [t]; simp
    · rw [decide_eq_false hl]; simp
  · have k1 : (setv j v false).testBit v = false := by rw [setv_test, if_pos rfl]
    have k3 : setv (setv j v false) v true = j := by
      apply Nat.eq_of_testBit_eq
      intro k
      rw [setv_test, setv_test]
      by_cases e : k = v
      · subst e; simp [h]
      · simp [e]
    have k2 := setv_add k1
    rw [k3] at k2
    have hl : 2 ^ v ≤ j := by omega
    have e : j - 2 ^ v = setv j v false := by omega
    rw [decide_eq_true hl, Bool.true_and, e, hbit _ (setv_lt (m := 6) hj hv), k1]; simp

theorem fixF_dep {n : Nat} {F : Fun} (h : Dep n F) (v : Nat) (b : Bool) : Dep n (fixF F v b) := fun y z hy => h _ _ fun k hk => by
  unfold Bdd.upd; split
  · rfl
  · exact hy k hk
theorem Dep.fix {n v : Nat} {F : Fun} (h : Dep n F) (hv : n ≤ v) (b : Bool) (y : Nat → Bool) : fixF F v b y = F y := h _ _ fun k hk => by
  unfold Bdd.upd; rw [if_neg (by omega)]
/-- A function that hangs on the first k + 1 variables, with the last of them set. -/
theorem Dep.fix_last {k : Nat} {F : Fun} (h : Dep (k + 1) F) (b : Bool) : Dep k (fixF F k b) := fun y z hy => h _ _ fun j hj => by
  unfold Bdd.upd; split
  · rfl
  · exact hy j (by omega)

end Go.Proofs.YtiojnjihbidbiaaGreat

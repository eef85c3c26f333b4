/- spinneylaw26, walked: numbers of tables at an assignment. -/
import Derived.Test.YtiojnjihbidbiaaGreatWord14
import Derived.Test.YtiojnjihbidbiaaGreatPlay5
namespace Go.Proofs.YtiojnjihbidbiaaGreat
open Go.RowKit
attribute [local go_sem ↓] Go.wp_at_zero Go.wp_at_succ
set_option linter.unusedVariables false

/-- The functions of a list. -/
def FL (Fs : List Fun) (i : Nat) : Fn := Fs.getD i fun _ => false
theorem FL_get {Fs : List Fun} {i : Nat} {F : Fun} (h : Fs[i]? = some F) : FL Fs i = F := by
  unfold FL; rw [List.getD_eq_getElem?_getD, h]; rfl

theorem num_or (j y : Nat) (hj : j < 8) (hy : y < 2 ^ j) : bits BinOp.or IntKind.i64 (y : Int) ((2 ^ j : Nat) : Int) = ((y + 1 * 2 ^ j : Nat) : Int) := by
  have h2 : (2 : Nat) ^ j ≤ 2 ^ 7 := Nat.pow_le_pow_right (by omega) (by omega)
  have e : (2 : Nat) ^ 7 = 128 := by decide
  have h3 := Nat.two_pow_add_eq_or_of_lt hy 1
  rw [i64_or_nat _ _ (by omega) (by omega), Nat.or_comm]
  rw [Nat.mul_one] at h3
  rw [← h3, Nat.one_mul, Nat.add_comm]

set_option maxHeartbeats 1000000 in
set_option maxRecDepth 4000 in
theorem at_any (Fs : List Fun) (v : Value) (x : Nat) (w : World) (h : TabsAt w v Fs) (hl : Fs.length ≤ 4) (hx : x < 256) :
    Calls Tryz.prog 42 #[v, .int .u8 (x : Int)] w fun e w' => e = .returned (.int .i64 (numOf (FL Fs) (asg x) Fs.length : Nat)) ∧ Fr [] w w' := by
  obtain ⟨a, cap, rfl, _⟩ := row_shape h
  go_enter Tryz.func42, Tryz.ntmps42
  go_wp2_with fail
  go_loopg [5, 6] Fs.length (fun kk n i wr => ∃ j : Nat, j ≤ Fs.length ∧ kk = Fs.length - j ∧ i = .int .i64 (j : Int) ∧ n = .int .i64 (numOf (FL Fs) (asg x) j : Nat) ∧ Fr [] w wr)
  case atStart => exact ⟨0, by omega, by omega, rfl, rfl, Fr.refl [] w⟩
  case round =>
    obtain ⟨j, hj, hk, rfl, rfl, hF⟩ := hrel
    by_cases hlt : j < Fs.length
    · obtain ⟨F, hF1⟩ : ∃ F, Fs[j]? = some F := ⟨Fs[j], List.getElem?_eq_getElem hlt⟩
      obtain ⟨g, cap', e, _, c0, c1, c2, c3⟩ := (h.fr hF).get hF1
      injection e with e1 e3 e4
      subst e1 e4
      have hFL := FL_get hF1
      have hy := numOf_lt (FL Fs) (asg x) j
      have hor := num_or j _ (by omega) hy
      have hnx : numOf (FL Fs) (asg x) (j + 1) = numOf (FL Fs) (asg x) j + (F (asg x)).toNat * 2 ^ j := by rw [numOf, hFL]
      have HNX := Lib.hid hnx
      have HF := Lib.hid hF
      have hlt2 : (j : Int) < (Fs.length : Int) := by omega
      have hl4 : (Fs.length : Int) ≤ 4 := by omega
      clear e3 hnx hF hFL hF1
      generalize numOf (FL Fs) (asg x) j = N at *
      cases hb : F (asg x)
      all_goals
        rw [hb] at HNX
        go_wp2_with fail
        with_reducible refine (teval_any F x _ hx).mono ?_
        rw [hb]
        rintro e w1 ⟨rfl, hF2⟩
      · go_wp2
        go_roundg (Fs.length - (j + 1))
        case measure => omega
        case rel => exact ⟨j + 1, by omega, rfl, by go_num, by rw [HNX.out]; simp, HF.out.then hF2⟩
      · have h2 : (2 : Int) ^ j < 16 := by
          have := Nat.pow_lt_pow_right (a := 2) (by omega) (show j < 4 by omega)
          have e : ((2 : Nat) : Int) ^ j = ((2 ^ j : Nat) : Int) := by rw [Int.natCast_pow]
          have e2 : (2 : Int) ^ j = ((2 ^ j : Nat) : Int) := e
          omega
        have h20 : (0 : Int) ≤ 2 ^ j := Int.pow_nonneg (by decide)
        have hor2 : bits BinOp.or IntKind.i64 (N : Int) (2 ^ j) = ((N + 1 * 2 ^ j : Nat) : Int) := by rw [← hor]; simp
        go_wp2
        go_roundg (Fs.length - (j + 1))
        case measure => omega
        case rel => exact ⟨j + 1, by omega, rfl, by go_num, by rw [HNX.out]; simp, HF.out.then hF2⟩
    · have e : Fs.length = j := by omega
      subst e
      have HF := Lib.hid hF
      clear hF
      go_wp2
      go_ret
      exact ⟨rfl, HF.out⟩

/-- A table of 256 truth values, filled as far as k. -/
def bcells (F : Fun) (k : Nat) : Array Value := ((List.range 256).map fun x => Value.bool (decide (x < k) && F (asg x))).toArray
theorem bcells_size (F : Fun) (k : Nat) : (bcells F k).size = 256 := by simp [bcells]
theorem bcells_get (F : Fun) (k : Nat) {x : Nat} (hx : x < 256) : (bcells F k)[x]? = some (.bool (decide (x < k) && F (asg x))) := by
  simp [bcells, hx]
theorem bcells_set (F : Fun) {k : Nat} (hk : k < 256) : (bcells F k).setIfInBounds k (.bool (F (asg k))) = bcells F (k + 1) := by
  apply Array.ext
  · simp [bcells]
  intro i h1 h2
  rw [Array.getElem_setIfInBounds (by simpa using h1)]
  have hi : i < 256 := by simpa [bcells] using h2
  by_cases e : k = i
  · subst e; simp [bcells]
  · rw [if_neg e]
    simp only [bcells, List.getElem_toArray, List.getElem_map, List.getElem_range]
    rw [show decide (i < k + 1) = decide (i < k) by simp; omega]

def BtAt (w : World) (v : Value) (F : Fun) : Prop := ∃ g, v = .slice (some ⟨g, 0, none⟩) 256 256 ∧ Blk w g (bcells F 256) 4
theorem BtAt.fr {w w' : World} {v : Value} {F : Fun} (h : BtAt w v F) (f : Fr [] w w') : BtAt w' v F := by
  obtain ⟨g, e, hb⟩ := h; exact ⟨g, e, hb.fr f (by simp)⟩
/-- A slice of tables of truth values. -/
def BtsAt (w : World) (v : Value) (Fs : List Fun) : Prop := ∃ vs : List Value, vs.length = Fs.length ∧ w.ownsRow 0 64 1 v Fs.length vs ∧ ∀ (i : Nat) u F, vs[i]? = some u → Fs[i]? = some F → BtAt w u F
theorem BtsAt.fr {w w' : World} {v : Value} {Fs : List Fun} (h : BtsAt w v Fs) (f : Fr [] w w') : BtsAt w' v Fs := by
  obtain ⟨vs, hl, hr, hb⟩ := h; exact ⟨vs, hl, row_fr hr f (by simp), fun i u F hu hF => (hb i u F hu hF).fr f⟩
theorem BtsAt.nil (w : World) : BtsAt w (.slice none 0 0) [] := ⟨[], rfl, ⟨rfl, .inl ⟨rfl, rfl⟩⟩, fun i u F hu => by simp at hu⟩
theorem BtsAt.get {w : World} {v : Value} {Fs : List Fun} (h : BtsAt w v Fs) {i : Nat} {F : Fun} (hF : Fs[i]? = some F) :
    ∃ g cap b, v = .slice (some ⟨g, 0, none⟩) Fs.length cap ∧ w.cell? ⟨g, i, none⟩ = some (.slice (some ⟨b, 0, none⟩) 256 256) ∧ Blk w b (bcells F 256) 4 := by
  obtain ⟨vs, hl, hr, hb⟩ := h
  have hi := (List.getElem?_eq_some_iff.1 hF).1
  obtain ⟨u, hu⟩ : ∃ u, vs[i]? = some u := ⟨vs[i], List.getElem?_eq_getElem (by omega)⟩
  obtain ⟨b, e, hB⟩ := hb i u F hu hF
  obtain ⟨g, cap, e2, _, c⟩ := row_get hr hu
  subst e
  exact ⟨g, cap, b, e2, c, hB⟩

set_option maxHeartbeats 1000000 in
set_option maxRecDepth 4000 in
theorem bvalue_any (Fs : List Fun) (v : Value) (x : Nat) (w : World) (h : BtsAt w v Fs) (hl : Fs.length ≤ 4) (hx : x < 256) :
    Calls Tryz.prog 44 #[v, .int .i64 (x : Int)] w fun e w' => e = .returned (.int .i64 (numOf (FL Fs) (asg x) Fs.length : Nat)) ∧ w = w' := by
  obtain ⟨a, cap, rfl, _⟩ := row_shape h.choose_spec.2.1
  go_enter Tryz.func44, Tryz.ntmps44
  go_wp2_with fail
  go_loopg [5, 6] Fs.length (fun kk n i wr => ∃ j : Nat, j ≤ Fs.length ∧ kk = Fs.length - j ∧ i = .int .i64 (j : Int) ∧ n = .int .i64 (numOf (FL Fs) (asg x) j : Nat) ∧ w = wr)
  case atStart => exact ⟨0, by omega, by omega, rfl, rfl, rfl⟩
  case round =>
    obtain ⟨j, hj, hk, rfl, rfl, rfl⟩ := hrel
    by_cases hlt : j < Fs.length
    · obtain ⟨F, hF1⟩ : ∃ F, Fs[j]? = some F := ⟨Fs[j], List.getElem?_eq_getElem hlt⟩
      obtain ⟨g, cap', b, e, cg, hB⟩ := h.get hF1
      injection e with e1 e3 e4
      subst e1 e4
      have cb := hB.cell x (bcells_get F 256 hx)
      have hFL := FL_get hF1
      have hy := numOf_lt (FL Fs) (asg x) j
      have hor := num_or j _ (by omega) hy
      have hnx : numOf (FL Fs) (asg x) (j + 1) = numOf (FL Fs) (asg x) j + (F (asg x)).toNat * 2 ^ j := by rw [numOf, hFL]
      have HNX := Lib.hid hnx
      have hlt2 : (j : Int) < (Fs.length : Int) := by omega
      have hl4 : (Fs.length : Int) ≤ 4 := by omega
      rw [decide_eq_true hx, Bool.true_and] at cb
      have hx' : (x : Int) < 256 := by omega
      clear e3 hnx hFL hF1 hB
      generalize numOf (FL Fs) (asg x) j = N at *
      have h2 : (2 : Int) ^ j < 16 := by
        have := Nat.pow_lt_pow_right (a := 2) (by omega) (show j < 4 by omega)
        have e : ((2 : Nat) : Int) ^ j = ((2 ^ j : Nat) : Int) := by rw [Int.natCast_pow]
        have e2 : (2 : Int) ^ j = ((2 ^ j : Nat) : Int) := e
        omega
      have h20 : (0 : Int) ≤ 2 ^ j := Int.pow_nonneg (by decide)
      have hor2 : bits BinOp.or IntKind.i64 (N : Int) (2 ^ j) = ((N + 1 * 2 ^ j : Nat) : Int) := by rw [← hor]; simp
      cases hb : F (asg x)
      all_goals
        rw [hb] at HNX cb
        clear hb
        go_wp2
        go_roundg (Fs.length - (j + 1))
        case measure => omega
        case rel => exact ⟨j + 1, by omega, rfl, by go_num, by rw [HNX.out]; simp, rfl⟩
    · have e : Fs.length = j := by omega
      subst e
      go_wp2
      go_ret
      exact ⟨rfl, rfl⟩
end Go.Proofs.YtiojnjihbidbiaaGreat

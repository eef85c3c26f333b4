/- The statements' tables, walked: restricted; held against each other. -/
import Derived.Test.YtiojnjihbidbiaaGreatTabD
import Derived.ChangeKeysEq
namespace Go.Proofs.YtiojnjihbidbiaaGreat
open Go.RowKit
attribute [local go_sem ↓] Go.wp_at_zero Go.wp_at_succ
set_option linter.unusedVariables false

theorem bit_u8' (n j : Nat) (hn : n < 256) : bits BinOp.and IntKind.u8 ((n : Int) / 2 ^ j) 1 = ((n.testBit j).toNat : Int) := by
  have e : (n : Int) / 2 ^ j = ((n / 2 ^ j : Nat) : Int) := by simp
  have h : n / 2 ^ j < 256 := Nat.lt_of_le_of_lt (Nat.div_le_self _ _) hn
  rw [e, show (1 : Int) = ((1 : Nat) : Int) from rfl, u8_and_nat _ _ h (by omega), Nat.and_one_is_mod, Nat.testBit_eq_decide_div_mod_eq]
  by_cases h2 : n / 2 ^ j % 2 = 1
  · rw [h2]; simp
  · have : n / 2 ^ j % 2 = 0 := by omega
    rw [this]; simp
theorem toNat_one (b : Bool) : ((b.toNat : Int) == 1) = b := by cases b <;> rfl

set_option maxHeartbeats 4000000 in
set_option maxRecDepth 8000 in
theorem trestr_any (F : Fun) (m x : Nat) (w : World) (hm : m < 256) (hx : x < 256) :
    Calls Tryz.prog 54 #[tv F, .int .u8 (m : Int), .int .u8 (x : Int)] w fun e w' => e = .returned (tv (restrF F m x 8)) ∧ Fr [] w w' := by
  have R0 := Lib.hid (Two.start F w)
  go_enter Tryz.func54, Tryz.ntmps54
  go_wp2_with fail
  go_loopg [7] 8 (fun k i wr => ∃ j : Nat, j ≤ 8 ∧ k = 8 - j ∧ i = .int .i64 (j : Int) ∧ Two (restrF F m x j) w (w.heap.size + 1) w.heap.size wr)
  case atStart => exact ⟨0, by omega, by omega, rfl, R0.out⟩
  case round =>
    obtain ⟨j, hj, hk, rfl, hr⟩ := hrel
    obtain ⟨⟨c0, c1, c2, c3⟩, ⟨f0, f1, f2, f3⟩, ⟨d0, d1, d2, d3⟩, ⟨g0, g1, g2, g3⟩⟩ := hr.all
    have HR := Lib.hid hr
    clear hr
    have hc : IntKind.u64.wrap (j : Int) = (j : Int) := by rw [show IntKind.u64.wrap (j : Int) = (j : Int) % 18446744073709551616 from rfl]; omega
    by_cases hlt : j < 8
    · have hb := bit_u8' m j hm
      have hbx := bit_u8' x j hx
      have ht := toNat_one (m.testBit j)
      have htx := toNat_one (x.testBit j)
      clear d0 d1 d2 d3 g0 g1 g2 g3
      by_cases hmj : m.testBit j = true
      · have hstep : restrF F m x (j + 1) = fixF (restrF F m x j) j (x.testBit j) := by show (if _ then _ else _) = _; rw [if_pos hmj]
        have HST := Lib.hid hstep
        clear hstep
        go_wp2_with fail
        refine (tfix_any (restrF F m x j) j (x.testBit j) _ hlt).mono ?_
        rintro e w1 ⟨rfl, hF⟩
        have h1 := HR.out.then hF
        obtain ⟨⟨k0, k1, k2, k3⟩, ⟨l0, l1, l2, l3⟩, _⟩ := h1.all
        have H2 := Lib.hid (h1.set (G := fixF (restrF F m x j) j (x.testBit j)))
        clear h1 hF c0 c1 c2 c3 f0 f1 f2 f3
        go_wp2
        go_roundg (8 - (j + 1))
        case measure => omega
        case rel => exact ⟨j + 1, by omega, rfl, by go_num, by rw [HST.out]; exact H2.out⟩
      · have hmj' : m.testBit j = false := by simpa using hmj
        have hstep : restrF F m x (j + 1) = restrF F m x j := by show (if _ then _ else _) = _; rw [if_neg hmj]
        have HST := Lib.hid hstep
        clear hstep hmj
        go_wp2
        go_roundg (8 - (j + 1))
        case measure => omega
        case rel => exact ⟨j + 1, by omega, rfl, by go_num, by rw [HST.out]; exact HR.out⟩
    · have e : j = 8 := by omega
      subst e
      go_wp2
      refine bodyPost_ret (results_table rfl rfl (HR.out.res.four rfl)) rfl ⟨rfl, ?_⟩
      exact (((HR.out.fr.setCell _ (.inr HR.out.le.1)).setCell _ (.inr HR.out.le.1)).setCell _ (.inr HR.out.le.1)).setCell _ (.inr HR.out.le.1)

/-- Are two tables one? -/
def eqT (F G : Fun) : Bool := (wd F 0 == wd G 0) && ((wd F 1 == wd G 1) && ((wd F 2 == wd G 2) && (wd F 3 == wd G 3)))
theorem eqT_iff {F G : Fun} : eqT F G = true ↔ ∀ x, x < 256 → F (asg x) = G (asg x) := by
  unfold eqT
  simp only [Bool.and_eq_true, beq_iff_eq]
  constructor
  · rintro ⟨h0, h1, h2, h3⟩
    exact wd_inj fun i hi => by
      have : i = 0 ∨ i = 1 ∨ i = 2 ∨ i = 3 := by omega
      rcases this with rfl | rfl | rfl | rfl
      · exact h0
      · exact h1
      · exact h2
      · exact h3
  · intro h
    exact ⟨wd_congr (F := F) (G := G) (i := 0) h (by omega), wd_congr (F := F) (G := G) (i := 1) h (by omega), wd_congr (F := F) (G := G) (i := 2) h (by omega), wd_congr (F := F) (G := G) (i := 3) h (by omega)⟩
theorem eqT_dep {F G : Fun} (hF : Dep 8 F) (hG : Dep 8 G) : eqT F G = true ↔ ∀ y, F y = G y :=
  eqT_iff.trans ⟨fun h y => Dep.all hF hG h y, fun h x _ => h _⟩
theorem nat_beq (a b : Nat) : ((a : Int) == (b : Int)) = (a == b) := by
  by_cases h : a = b
  · subst h; simp
  · have : ¬ (a : Int) = (b : Int) := by omega
    rw [beq_eq_false_iff_ne.2 this, beq_eq_false_iff_ne.2 h]

theorem run_eqT (F G : Fun) (w : World) : (Op.equalIn 10000 49 (tv F) (tv G)).run Tryz.prog w = .ok (eqT F G) w := by
  have u3 := Tryz.underlying47
  have hs : Tryz.prog.info? 47 = some ((Tryz.prog.info? 47).getD default) := by kernel_rfl
  rw [show (10000 : Nat) = 9999 + 1 from rfl, run_equalIn_array _ 9999 _ _ Tryz.underlying49 hs]
  have hc : Tryz.prog.cellsOf 47 = 1 := by kernel_rfl
  rw [hc]
  rw [show List.range 4 = [0, 1, 2, 3] from rfl]
  simp only [Op.eqItems]
  go_simp
  unfold eqT
  have e : ∀ a b : Nat, a = b ↔ (a : Int) = (b : Int) := fun a b => by omega
  by_cases h0 : wd F 0 = wd G 0 <;> by_cases h1 : wd F 1 = wd G 1 <;> by_cases h2 : wd F 2 = wd G 2 <;> by_cases h3 : wd F 3 = wd G 3
  all_goals
    rw [e] at h0 h1 h2 h3
    have k0 := h0
    have k1 := h1
    have k2 := h2
    have k3 := h3
    rw [← e] at k0 k1 k2 k3
    simp [h0, h1, h2, h3, k0, k1, k2, k3]
end Go.Proofs.YtiojnjihbidbiaaGreat

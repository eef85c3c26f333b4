/- logic, walked: a node's child on a level; the halves. -/
import Derived.Test.YtiojnjihbidbiaaGreatLog2
namespace Go.Proofs.YtiojnjihbidbiaaGreat
open Go.RowKit
attribute [local go_sem ↓] Go.wp_at_zero Go.wp_at_succ
set_option linter.unusedVariables false

theorem yz {a b : Nat} (h : a = b) : ((a : Int) == (b : Int)) = true := by simp; omega

section
variable {w w' : World} {s n room : Nat} {off : Bool} {B : List Nat} {L : List Bdd.Nd}

theorem child_lo (h : Sto w s B n room off L) {k l : Nat} (hk : Bdd.IsNd (Bdd.tab L) k) (hl : l < n) :
    Calls Tryz.prog 257 #[.pointer (some ⟨s, 0, none⟩), fnV 127, .int .u32 (k : Int), .int .i64 (l : Int)] w fun e w' => e = .returned (.int .u32 (Bdd.chLo n (Bdd.tab L) k l : Nat)) ∧ w = w' := by
  go_enter Tryz.func257, Tryz.ntmps257
  by_cases e : Bdd.lev n (Bdd.tab L) k = l
  · obtain ⟨h2, d, hd, hdl⟩ := Bdd.lev_lt_node (n := n) hk (by omega)
    have hr : Bdd.chLo n (Bdd.tab L) k l = d.lo := by unfold Bdd.chLo; rw [if_pos e, hd]
    rw [hr]
    have t := yz e
    clear hr
    go_wp2_with fail
    refine (sto_level h hk).mono ?_
    rintro e w1 ⟨rfl, rfl⟩
    go_wp2_with fail
    refine (sto_low h hd).mono ?_
    rintro e w1 ⟨rfl, rfl⟩
    go_wp2
    go_ret
    exact ⟨rfl, rfl⟩
  · have hr : Bdd.chLo n (Bdd.tab L) k l = k := by unfold Bdd.chLo; rw [if_neg e]
    rw [hr]
    have t := ne_test e
    clear hr e
    go_wp2_with fail
    refine (sto_level h hk).mono ?_
    rintro e w1 ⟨rfl, rfl⟩
    go_wp2
    go_ret
    exact ⟨rfl, rfl⟩
theorem child_hi (h : Sto w s B n room off L) {k l : Nat} (hk : Bdd.IsNd (Bdd.tab L) k) (hl : l < n) :
    Calls Tryz.prog 257 #[.pointer (some ⟨s, 0, none⟩), fnV 128, .int .u32 (k : Int), .int .i64 (l : Int)] w fun e w' => e = .returned (.int .u32 (Bdd.chHi n (Bdd.tab L) k l : Nat)) ∧ w = w' := by
  go_enter Tryz.func257, Tryz.ntmps257
  by_cases e : Bdd.lev n (Bdd.tab L) k = l
  · obtain ⟨h2, d, hd, hdl⟩ := Bdd.lev_lt_node (n := n) hk (by omega)
    have hr : Bdd.chHi n (Bdd.tab L) k l = d.hi := by unfold Bdd.chHi; rw [if_pos e, hd]
    rw [hr]
    have t := yz e
    clear hr
    go_wp2_with fail
    refine (sto_level h hk).mono ?_
    rintro e w1 ⟨rfl, rfl⟩
    go_wp2_with fail
    refine (sto_high h hd).mono ?_
    rintro e w1 ⟨rfl, rfl⟩
    go_wp2
    go_ret
    exact ⟨rfl, rfl⟩
  · have hr : Bdd.chHi n (Bdd.tab L) k l = k := by unfold Bdd.chHi; rw [if_neg e]
    rw [hr]
    have t := ne_test e
    clear hr e
    go_wp2_with fail
    refine (sto_level h hk).mono ?_
    rintro e w1 ⟨rfl, rfl⟩
    go_wp2
    go_ret
    exact ⟨rfl, rfl⟩

theorem idx0 (a b c : Nat) (w : World) : (Instr.index 154 (args3 a b c) (.int .i64 0)).run Tryz.prog w = .ok (.int .u32 (a : Int)) w := by kernel_rfl
theorem idx1 (a b c : Nat) (w : World) : (Instr.index 154 (args3 a b c) (.int .i64 1)).run Tryz.prog w = .ok (.int .u32 (b : Int)) w := by kernel_rfl
theorem idx2 (a b c : Nat) (w : World) : (Instr.index 154 (args3 a b c) (.int .i64 2)).run Tryz.prog w = .ok (.int .u32 (c : Int)) w := by kernel_rfl

abbrev walkV (s op k : Nat) : Value := .agg #[.pointer (some ⟨s, 0, none⟩), .int .u8 (op : Int), fnV k]

set_option maxHeartbeats 1000000 in
set_option maxRecDepth 4000 in
theorem half_lo {P : Ending → World → Prop} (h : Sto w s B n room off L) {a b c l op k : Nat} (ha : Bdd.IsNd (Bdd.tab L) a) (hb : Bdd.IsNd (Bdd.tab L) b) (hc : Bdd.IsNd (Bdd.tab L) c) (hl : l < n)
    (hd : ∀ w1, Fr [] w w1 → Calls Tryz.prog 165 #[walkV s op k, args3 (Bdd.chLo n (Bdd.tab L) a l) (Bdd.chLo n (Bdd.tab L) b l) (Bdd.chLo n (Bdd.tab L) c l)] w1 P) (hP : ∀ e w', P e w' → ∃ x y, e = .returned (.tuple #[x, y])) :
    Calls Tryz.prog 210 #[walkV s op k, args3 a b c, .int .i64 (l : Int), fnV 127] w P := by
  have i0 := idx0 a b c
  have i1 := idx1 a b c
  have i2 := idx2 a b c
  go_enter Tryz.func210, Tryz.ntmps210
  go_wp2_with fail
  refine wp_loop_rounds 4 ?_
  rw [rounds_succ]
  go_wp2_with fail
  refine (child_lo (h.fr (((Fr.refl [] w).alloc _).alloc _) (by simp)) ha hl).mono ?_
  rintro e w1 ⟨rfl, rfl⟩
  go_wp2_with fail
  rw [rounds_succ]
  go_wp2_with fail
  refine (child_lo (room := room) (off := off) (B := B) ?h1 hb hl).mono ?_
  case h1 => exact h.fr (((Fr.refl [] w).alloc _).alloc _) (by simp)
  rintro e w1 ⟨rfl, rfl⟩
  go_wp2_with fail
  rw [rounds_succ]
  go_wp2_with fail
  refine (child_lo (room := room) (off := off) (B := B) ?h2 hc hl).mono ?_
  case h2 => exact h.fr (((Fr.refl [] w).alloc _).alloc _) (by simp)
  rintro e w1 ⟨rfl, rfl⟩
  go_wp2_with fail
  rw [rounds_succ]
  go_wp2_with fail
  refine (hd _ ?h3).mono ?_
  case h3 => exact ((Fr.refl [] w).alloc _).alloc _
  intro e w1 hp
  obtain ⟨x, y, rfl⟩ := hP _ _ hp
  go_wp2
  exact hp
set_option maxHeartbeats 1000000 in
set_option maxRecDepth 4000 in
theorem half_hi {P : Ending → World → Prop} (h : Sto w s B n room off L) {a b c l op k : Nat} (ha : Bdd.IsNd (Bdd.tab L) a) (hb : Bdd.IsNd (Bdd.tab L) b) (hc : Bdd.IsNd (Bdd.tab L) c) (hl : l < n)
    (hd : ∀ w1, Fr [] w w1 → Calls Tryz.prog 165 #[walkV s op k, args3 (Bdd.chHi n (Bdd.tab L) a l) (Bdd.chHi n (Bdd.tab L) b l) (Bdd.chHi n (Bdd.tab L) c l)] w1 P) (hP : ∀ e w', P e w' → ∃ x y, e = .returned (.tuple #[x, y])) :
    Calls Tryz.prog 210 #[walkV s op k, args3 a b c, .int .i64 (l : Int), fnV 128] w P := by
  have i0 := idx0 a b c
  have i1 := idx1 a b c
  have i2 := idx2 a b c
  go_enter Tryz.func210, Tryz.ntmps210
  go_wp2_with fail
  refine wp_loop_rounds 4 ?_
  rw [rounds_succ]
  go_wp2_with fail
  refine (child_hi (h.fr (((Fr.refl [] w).alloc _).alloc _) (by simp)) ha hl).mono ?_
  rintro e w1 ⟨rfl, rfl⟩
  go_wp2_with fail
  rw [rounds_succ]
  go_wp2_with fail
  refine (child_hi (room := room) (off := off) (B := B) ?h1 hb hl).mono ?_
  case h1 => exact h.fr (((Fr.refl [] w).alloc _).alloc _) (by simp)
  rintro e w1 ⟨rfl, rfl⟩
  go_wp2_with fail
  rw [rounds_succ]
  go_wp2_with fail
  refine (child_hi (room := room) (off := off) (B := B) ?h2 hc hl).mono ?_
  case h2 => exact h.fr (((Fr.refl [] w).alloc _).alloc _) (by simp)
  rintro e w1 ⟨rfl, rfl⟩
  go_wp2_with fail
  rw [rounds_succ]
  go_wp2_with fail
  refine (hd _ ?h3).mono ?_
  case h3 => exact ((Fr.refl [] w).alloc _).alloc _
  intro e w1 hp
  obtain ⟨x, y, rfl⟩ := hP _ _ hp
  go_wp2
  exact hp
end
end Go.Proofs.YtiojnjihbidbiaaGreat

/- order, walked: the order in which each variable lies at its own level. -/
import Derived.Test.YtiojnjihbidbiaaGreatOrd
namespace Go.Proofs.YtiojnjihbidbiaaGreat
open Go.RowKit
attribute [local go_sem ↓] Go.wp_at_zero Go.wp_at_succ
attribute [local go_sem ↓] run_min run_max
set_option linter.unusedVariables false

/-- A level's variable, or a variable's level, where there is one. -/
theorem ovar_any (b n k : Nat) (w : World) (h : Blk w b (ordCells n) 206) (hk : k < n) (hn : n ≤ 8) :
    Calls Tryz.prog 120 #[.pointer (some ⟨b, 0, none⟩), .int .i64 (k : Int)] w fun e w' => e = .returned (.int .i64 (k : Int)) ∧ w = w' := by
  have c0 := h.cell 0 (v := .int .i64 (n : Int)) rfl
  have ck := h.cell (1 + k) (ordCells_var hk hn)
  clear h
  go_enter Tryz.func120, Tryz.ntmps120
  go_wp2
  go_ret
  exact ⟨rfl, rfl⟩

theorem olevel_any (b n k : Nat) (w : World) (h : Blk w b (ordCells n) 206) (hk : k < n) (hn : n ≤ 8) :
    Calls Tryz.prog 206 #[.pointer (some ⟨b, 0, none⟩), .int .i64 (k : Int)] w fun e w' => e = .returned (.int .i64 (k : Int)) ∧ w = w' := by
  have c0 := h.cell 0 (v := .int .i64 (n : Int)) rfl
  have ck := h.cell (9 + k) (ordCells_level hk hn)
  clear h
  go_enter Tryz.func206, Tryz.ntmps206
  go_wp2
  go_ret
  exact ⟨rfl, rfl⟩

section
variable {w w' : World} {s n room : Nat} {off : Bool} {B : List Nat} {L : List Bdd.Nd}

theorem sto_order (h : Sto w s B n room off L) :
    Calls Tryz.prog 109 #[.pointer (some ⟨s, 0, none⟩)] w fun e w' => ∃ b', e = .returned (.pointer (some ⟨b', 0, none⟩)) ∧ Blk w' b' (ordCells n) 206 ∧ Fr [] w w' ∧ w.heap.size ≤ b' := by
  obtain ⟨y, K, C, sl, rfl, hs⟩ := h
  have c1 := hs.head.cell 1 (v := .pointer (some ⟨y.ord, 0, none⟩)) rfl
  go_enter Tryz.func109, Tryz.ntmps109
  go_wp2_with fail
  refine (ocopy_any y.ord n _ hs.ord).mono ?_
  rintro e w1 ⟨b', rfl, hB, hF, hlt⟩
  go_wp2
  go_ret
  exact ⟨b', rfl, hB, hF, hlt⟩

theorem mkc_le (l : Nat) : mkc l ≤ 31 := by unfold mkc; split <;> omega

theorem var_any (h : Sto w s B n room off L) {v : Nat} (hv : v < n) :
    Calls Tryz.prog 156 #[.pointer (some ⟨s, 0, none⟩), .int .i64 (v : Int)] w (FnPost s n room off B L w fun y => y v) := by
  have hn := h.vars.2
  go_enter Tryz.func156, Tryz.ntmps156
  go_wp2_with fail
  refine (sto_order h).mono ?_
  rintro e w1 ⟨b', rfl, hB, hF, hlt⟩
  go_wp2_with fail
  refine (olevel_any b' n v _ hB hv hn).mono ?_
  rintro e w2 ⟨rfl, rfl⟩
  go_wp2_with fail
  have h1 := h.fr hF (by simp)
  refine (sto_mk h1 v 0 1 hv (Bdd.IsNd.zero _) (Bdd.IsNd.one _) (by rw [Bdd.lev_const (by omega)]; exact hv) (by rw [Bdd.lev_const (by omega)]; exact hv)).mono ?_
  intro e w2 hp
  have hq : FnPost s n room off B L w (fun y => y v) e w2 := by
    refine OpPost.mono (OpPost.after (h1.evo hF (by simp)) hp (Nat.le_refl _)) (by have := mkc_le v; omega) fun L' c k g hk => ⟨hk.1, fun y => ?_⟩
    show _ = y v
    rw [hk.2, Bdd.D_one, Bdd.D_zero]; cases y v <;> rfl
  obtain ⟨x, y, rfl⟩ := OpPost.form hp
  have HQ := Lib.hid hq
  clear hp hq
  go_wp2
  go_ret2
  exact HQ.out
end
end Go.Proofs.YtiojnjihbidbiaaGreat

/- order.All, walked: the variables in their order. -/
import Derived.Test.YtiojnjihbidbiaaGreatWordA
import Derived.Test.YtiojnjihbidbiaaGreatTabE
import Derived.Laws.CopyRow
namespace Go.Proofs.YtiojnjihbidbiaaGreat
open Go.RowKit
attribute [local go_sem ↓] Go.wp_at_zero Go.wp_at_succ
set_option linter.unusedVariables false

theorem Fr.setRow {O : List Nat} {a w : World} (h : Fr O a w) {g : Nat} (cs : Array Value) (hg : g ∈ O ∨ a.heap.size ≤ g) : Fr O a (w.setRow g cs) :=
  ⟨h.os, h.tape, h.output, by have := h.size; simpa [World.setRow] using this, fun k hk hn => by
    have hne : k ≠ g := fun e => by subst e; exact hg.elim hn (fun h1 => by omega)
    rw [← h.block k hk hn]
    simp [World.setRow, Array.getElem?_modify, Ne.symm hne]⟩

set_option maxHeartbeats 4000000 in
set_option maxRecDepth 8000 in
theorem all_any (b n : Nat) (w : World) (h : Blk w b (ordCells n) 206) (n1 : 1 ≤ n) (n8 : n ≤ 8) :
    Calls Tryz.prog 110 #[.pointer (some ⟨b, 0, none⟩)] w fun e w' => ∃ v, e = .returned v ∧ IntsAt w' v (List.range n) ∧ Fr [] w w' ∧ ∀ k, v.ownBlock = some k → w.heap.size ≤ k := by
  have c0 := h.cell 0 (v := .int .i64 (n : Int)) rfl
  have hmk := run_make_zeros (P := Tryz.prog) w 120 3 (.int .i64 0) 8 .i64 Tryz.underlying120 Tryz.info_int rfl n (by omega) (by omega)
  have h2 := h.alloc (.cells (ints .i64 (List.replicate n 0)) 3)
  have e0 := h2.cell 0 (v := .int .i64 (n : Int)) rfl
  have hnew := Blk.new w (ints .i64 (List.replicate n 0)) 3
  have hsz : (ints .i64 (List.replicate n 0)).size = n := by simp [ints]
  have hcs : ((List.range n).map fun i : Nat => Value.int .i64 (i : Int)).length = n := by simp
  have hcp := run_copy_row (P := Tryz.prog) (w.alloc (.cells (ints .i64 (List.replicate n 0)) 3)).drew 120 120 3 3 w.heap.size 0 n n ⟨b, 1, none⟩ n 8 (ints .i64 (List.replicate n 0)) 3 ((List.range n).map fun i : Nat => Value.int .i64 (i : Int))
    Tryz.underlying120 (by kernel_rfl) hnew (by rw [hcs]; exact (Nat.min_self n).symm) (fun j v hv => by
      rw [List.getElem?_map] at hv
      have hj : j < n := by
        rcases Nat.lt_or_ge j n with hj | hj
        · exact hj
        · rw [List.getElem?_eq_none (by simp; omega)] at hv; cases hv
      rw [List.getElem?_range hj] at hv
      obtain rfl := Option.some.inj hv
      rw [show (⟨b, 1, none⟩ : Addr).add j = ⟨b, 1 + j, none⟩ by unfold Addr.add; split <;> simp_all]
      exact h2.cell (1 + j) (ordCells_var hj n8)) (by rw [hcs, hsz]; omega) (fun v hv => by
      rw [List.mem_map] at hv; obtain ⟨i, _, rfl⟩ := hv; rfl)
  rw [hcs] at hcp
  have hrow : (List.take 0 (ints .i64 (List.replicate n 0)).toList ++ ((List.range n).map fun i : Nat => Value.int .i64 (i : Int)) ++ List.drop (0 + n) (ints .i64 (List.replicate n 0)).toList).toArray = ints .i64 (List.range n) := by
    rw [List.drop_of_length_le (by simp [ints])]; simp [ints]
  rw [hrow] at hcp
  have hfin : IntsAt ((w.alloc (.cells (ints .i64 (List.replicate n 0)) 3)).drew.setRow w.heap.size (ints .i64 (List.range n))) (.slice (some ⟨w.heap.size, 0, none⟩) n n) (List.range n) := by
    have hb : Blk ((w.alloc (.cells (ints .i64 (List.replicate n 0)) 3)).drew.setRow w.heap.size (ints .i64 (List.range n))) w.heap.size (ints .i64 (List.range n)) 3 := setRow_heap _ _ _ _ _ _ hnew
    have := row_lit hb (by unfold maxLen; simp [ints]; omega)
    have hs : (ints .i64 (List.range n)).size = n := by simp [ints]
    rw [hs] at this
    unfold IntsAt
    rw [List.length_range]
    simpa [ints] using this
  have hF : Fr [] w ((w.alloc (.cells (ints .i64 (List.replicate n 0)) 3)).drew.setRow w.heap.size (ints .i64 (List.range n))) := (((Fr.refl [] w).alloc _).drew).setRow _ (.inr (Nat.le_refl _))
  have hn8 : (n : Int) ≤ 8 := by omega
  have hn0 : (0 : Int) ≤ n := by omega
  have HF := Lib.hid hfin
  have HF2 := Lib.hid hF
  clear hfin hF hrow hcs hsz hnew h2 h
  go_enter Tryz.func110, Tryz.ntmps110
  go_wp2_with fail
  go_region
  all_goals
    go_wp2
    go_ret
    exact ⟨.slice (some ⟨w.heap.size, 0, none⟩) n n, rfl, HF.out, HF2.out, fun k hk => by simp only [Value.ownBlock, Option.some.injEq] at hk; omega⟩
end Go.Proofs.YtiojnjihbidbiaaGreat

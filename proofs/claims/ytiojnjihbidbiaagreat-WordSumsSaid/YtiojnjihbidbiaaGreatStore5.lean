/- A free handle: the nodes' slice grows by one; walked. -/
import Derived.Test.YtiojnjihbidbiaaGreatStore4
namespace Go.Proofs.YtiojnjihbidbiaaGreat
open Go.RowKit
attribute [local go_sem ↓] Go.wp_at_zero Go.wp_at_succ
set_option linter.unusedVariables false

theorem Tryz.info_node : (Tryz.prog.info? 220).map (fun i => (i.zero, i.size, i.bytes)) = some (some (.agg #[.bool false, .int .i64 0, .int .u32 0, .int .u32 0]), 4, 24) := by kernel_rfl

/-- An absent node's cells. -/
def absent : List Value := [.bool false, .int .i64 0, .int .u32 0, .int .u32 0]

set_option maxHeartbeats 1000000 in
theorem handle_any (s len : Nat) (xs : List Value) (v0 v1 nv v4 v5 v6 v7 : Value) (w : World) (h : Blk w s #[v0, v1, nv, .slice none 0 0, v4, v5, v6, v7] 134) (hown : w.ownsRow 0 220 4 nv len xs) (hl : len ≤ 32768)
    (hs : ∀ k, nv.ownBlock = some k → s ≠ k) :
    Calls Tryz.prog 176 #[.pointer (some ⟨s, 0, none⟩)] w fun e w' => e = .returned (.int .u32 ((len : Int) + 2)) ∧ ∃ g cap,
      Blk w' s #[v0, v1, .slice (some ⟨g, 0, none⟩) (len + 1) cap, .slice none 0 0, v4, v5, v6, v7] 134 ∧ w'.ownsRow 0 220 4 (.slice (some ⟨g, 0, none⟩) (len + 1) cap) (len + 1) (xs ++ absent) ∧
      Fr (s :: nv.ownBlock.toList) w w' ∧ (nv.ownBlock = some g ∨ w.heap.size ≤ g) ∧ g < w'.heap.size := by
  obtain ⟨i0, hi, hz0, hz1, hz2⟩ := info_parts Tryz.info_node
  have c2 := h.cell 2 (v := nv) rfl
  have c3 := h.cell 3 rfl
  have hslt := h.lt
  have hA := Blk.new w #[.bool false, .int .i64 0, .int .u32 0, .int .u32 0] 220
  go_enter Tryz.func176, Tryz.ntmps176
  go_wp2_with (at_builtin; refine wpList_append_lies _ rfl _ _ _ rfl 0 220 i0 (.agg #[.bool false, .int .i64 0, .int .u32 0, .int .u32 0]) 4 24 Tryz.underlying129 hi hz0 hz1 hz2 rfl (by omega) nv len xs rfl (hown.alloc _) ⟨w.heap.size, 0, none⟩ 1 1 absent rfl rfl ?hnews ?h1 (by omega) ?h63 (by omega) (Nat.zero_le _) (w.heap.size + 1) (by simp) ?_)
  case hnews =>
    intro j u hj
    rw [Addr.add_lit, Nat.zero_add]
    exact hA.cell j (by simpa [absent] using hj)
  case h1 =>
    intro u hu
    simp only [absent, List.mem_cons, List.not_mem_nil, or_false] at hu
    rcases hu with rfl | rfl | rfl | rfl <;> rfl
  case h63 => unfold maxLen; omega
  · intro g cap w1 hown1 hgrow hat hglt
    have F1 : Fr nv.ownBlock.toList w w1 := Fr.grown ((Fr.refl _ w).alloc _) hgrow (fun k hk => .inl (by simp [hk]))
    have hs1 : s ∉ nv.ownBlock.toList := by
      intro hm
      simp only [Option.mem_toList] at hm
      exact hs s hm rfl
    have h1 := h.fr F1 hs1
    have d2 := h1.cell 2 (v := nv) rfl
    have f2 := h1.free 2
    have h2 := h1.set 2 (.slice (some ⟨g, 0, none⟩) (len + 1) cap)
    have e2 := h2.cell 2 (v := .slice (some ⟨g, 0, none⟩) (len + 1) cap) rfl
    have F2 : Fr (s :: nv.ownBlock.toList) w (w1.setCell ⟨s, 2, none⟩ (.slice (some ⟨g, 0, none⟩) (len + 1) cap)) :=
      (F1.mono (fun x hx => .inl (List.mem_cons_of_mem _ hx))).setCell _ (.inl (by simp))
    have hgs : g ≠ s := by
      rcases hat with h' | h'
      · exact fun e => hs g h' e.symm
      · omega
    have hown2 : (w1.setCell ⟨s, 2, none⟩ (.slice (some ⟨g, 0, none⟩) (len + 1) cap)).ownsRow 0 220 4 (.slice (some ⟨g, 0, none⟩) (len + 1) cap) (len + 1) (xs ++ absent) := by
      obtain ⟨r1, r2⟩ := hown1
      refine ⟨r1, ?_⟩
      rcases r2 with r2 | ⟨g', cap', cur, e, hb0, hg, r⟩
      · exact absurd r2.2 (by omega)
      · refine .inr ⟨g', cap', cur, e, hb0, ?_, r⟩
        have : g' = g := by simp at e; exact e.1.symm
        subst this
        rw [Below.heap_setCell _ _ _ _ hgs]; exact hg
    have hgf : nv.ownBlock = some g ∨ w.heap.size ≤ g := hat.imp id (fun e => by omega)
    have hglt2 : g < (w1.setCell ⟨s, 2, none⟩ (.slice (some ⟨g, 0, none⟩) (len + 1) cap)).heap.size := by simpa [World.setCell] using hglt
    clear hown1 hgrow hown h1 hA h
    go_wp2
    go_ret
    exact ⟨rfl, g, cap, h2, hown2, F2, hgf, hglt2⟩

end Go.Proofs.YtiojnjihbidbiaaGreat

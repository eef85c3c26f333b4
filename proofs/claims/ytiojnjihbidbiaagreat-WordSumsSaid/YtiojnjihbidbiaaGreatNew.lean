/- nodes.New, walked: an empty store. -/
import Derived.Test.YtiojnjihbidbiaaGreatOrd3
namespace Go.Proofs.YtiojnjihbidbiaaGreat
open Go.RowKit
attribute [local go_sem ↓] Go.wp_at_zero Go.wp_at_succ
set_option linter.unusedVariables false

theorem ccells_any (w : World) :
    Calls Tryz.prog 95 #[.int .i64 256] w fun e w' => e = .returned (.int .i64 768) ∧ w = w' := by
  go_enter Tryz.func95, Tryz.ntmps95
  go_wp2
  go_ret
  exact ⟨rfl, rfl⟩

theorem cnew_any (m cb : Nat) (w : World) (h : MemAt w m cb (List.replicate 768 0)) :
    Calls Tryz.prog 93 #[.pointer (some ⟨m, 0, none⟩), .int .i64 0, .int .i64 256] w fun e w' => ∃ c, e = .returned (.tuple #[.pointer (some ⟨c, 0, none⟩), .int .i64 0]) ∧ CacheAt w' c m cb (List.replicate 768 0) ∧ Fr [] w w' ∧ w.heap.size ≤ c := by
  have H := Lib.hid h
  have hlt := h.lt
  have M1 : ∀ w', w = w' → Calls Tryz.prog 159 #[.pointer (some ⟨m, 0, none⟩)] w' fun e w' => e = .returned (.int .i64 768) ∧ w = w' := fun w' hw => by
    subst hw
    exact (mlen_any m cb _ w H.out).mono fun e w' ⟨e1, e2⟩ => ⟨by rw [e1, List.length_replicate]; rfl, e2⟩
  have hB := Blk.new w #[.pointer (some ⟨m, 0, none⟩), .int .i64 0, .int .i64 256] 208
  have hfin : CacheAt (w.alloc (.cells #[.pointer (some ⟨m, 0, none⟩), .int .i64 0, .int .i64 256] 208)) w.heap.size m cb (List.replicate 768 0) :=
    ⟨hB, h.fr ((Fr.refl [] w).alloc _) (by simp) (by simp), by omega, by omega, List.length_replicate⟩
  have HF := Lib.hid hfin
  clear hfin hB h
  go_enter Tryz.func93, Tryz.ntmps93
  go_wp2_with fail
  refine (M1 _ rfl).mono ?_
  rintro e w' ⟨rfl, rfl⟩
  go_wp2_with fail
  refine (ccells_any _).mono ?_
  rintro e w' ⟨rfl, rfl⟩
  go_wp2_with fail
  refine (M1 _ rfl).mono ?_
  rintro e w' ⟨rfl, rfl⟩
  go_wp2
  go_ret2
  exact ⟨_, rfl, HF.out, (Fr.refl [] w).alloc _, Nat.le_refl _⟩

theorem wf_nil (n : Nat) : Bdd.Wf n (Bdd.tab []) := by
  have e : ∀ {k d}, Bdd.tab [] k = some d → False := fun {k d} h => by
    obtain ⟨_, h⟩ := Bdd.tab_some h
    simp at h
  exact ⟨fun h => (e h).elim, fun h => (e h).elim, fun h => (e h).elim, fun h => (e h).elim, fun h => (e h).elim, fun h => (e h).elim, fun h => (e h).elim, fun h => (e h).elim⟩

theorem nodes_nil (w : World) : NodesAt w (.slice none 0 0) [] := ⟨rfl, .inl ⟨rfl, rfl⟩⟩

theorem snew_any (n room : Nat) (w : World) (h1 : 1 ≤ n) (h8 : n ≤ 8) (r1 : 1 ≤ room) (r2 : room ≤ 32768) :
    Calls Tryz.prog 30 #[.int .i64 (n : Int), .int .i64 (room : Int)] w fun e w' => ∃ s B, e = .returned (.tuple #[.pointer (some ⟨s, 0, none⟩), .int .i64 0]) ∧ Sto w' s B n room false [] ∧ Fr [] w w' ∧ ∀ k ∈ B, w.heap.size ≤ k := by
  have n1 : ¬ (n : Int) < 1 := by omega
  have n8 : ¬ (8 : Int) < (n : Int) := by omega
  have n2 : ¬ (room : Int) < 1 := by omega
  have n9 : ¬ (32768 : Int) < (room : Int) := by omega
  go_enter Tryz.func30, Tryz.ntmps30
  go_wp2_with fail
  refine (onew_any n _ h1 h8).mono ?_
  rintro e w1 ⟨o, rfl, hO, hF1, ho⟩
  have hS := Blk.new w1 #[.int .i64 (room : Int), .pointer (some ⟨o, 0, none⟩), .slice none 0 0, .slice none 0 0, .pointer none, .map none, .pointer none, .bool false] 134
  go_wp2_with fail
  refine (ccells_any _).mono ?_
  rintro e w' ⟨rfl, rfl⟩
  go_wp2_with fail
  refine (mnew_any 768 _ (by omega)).mono ?_
  rintro e w2 ⟨m, cb, rfl, hM, hF2, hm, hcb⟩
  go_wp2_with fail
  refine (cnew_any m cb _ hM).mono ?_
  rintro e w3 ⟨c, rfl, hC, hF3, hc⟩
  have hS3 := (hS.fr hF2 (by simp)).fr hF3 (by simp)
  have c6 := hS3.cell 6 (v := .pointer none) rfl
  have f6 := hS3.free 6
  have hS4 := hS3.set 6 (.pointer (some ⟨c, 0, none⟩))
  have hO3 := ((hO.alloc (.cells #[.int .i64 (room : Int), .pointer (some ⟨o, 0, none⟩), .slice none 0 0, .slice none 0 0, .pointer none, .map none, .pointer none, .bool false] 134)).fr hF2 (by simp)).fr hF3 (by simp)
  have HS4 := Lib.hid hS4
  have HO3 := Lib.hid hO3
  have HC := Lib.hid hC
  have hsz1 := hF1.size
  have hsz2 := hF2.size
  have hsz3 := hF3.size
  have hOl := hO.lt
  rw [World.size_alloc] at hsz2 hm hcb
  have hCl := hC.lt
  have hMl := hM.lt
  have F3 : Fr [] w w3 := ((hF1.alloc _).then hF2).then hF3
  clear hS hS3 hS4 hO hO3 hC hM hF2 hF3 hF1
  go_wp2_with fail
  refine (grows_any w1.heap.size 32 _ _ (.slice none 0 0) _ _ _ _ _ n [] _ (by exact HS4.out) (nodes_nil _) (fun k hk => by cases hk) (by omega) (by omega) (by simp) (by simp) (wf_nil n) h8).mono ?_
  rintro e w5 ⟨rfl, tab, tm, tc, slo, K, sl, hK, hB, hN, hT, hMp, hI, hF5, g1, g2, g3, g4, hnd⟩
  have F45 : Fr [w1.heap.size] w3 w5 := ((Fr.refl [w1.heap.size] w3).setCell (p := ⟨w1.heap.size, 6, none⟩) (.pointer (some ⟨c, 0, none⟩)) (.inl (by simp))).then hF5
  have e4 : (w3.setCell ⟨w1.heap.size, 6, none⟩ (.pointer (some ⟨c, 0, none⟩))).heap.size = w3.heap.size := by simp [World.setCell]
  rw [e4] at g1 g2 g3 g4
  have F5 : Fr [] w w5 := F3.trans F45 (fun x hx => by simp only [List.mem_singleton] at hx; subst hx; exact .inr hsz1)
  have hCC := HC.out
  have ncm := hCC.2.2.1
  have ncc := hCC.2.2.2.1
  have nmc : m ≠ cb := by obtain ⟨_, _, _, _, hne⟩ := hCC.2.1; exact hne
  have hOO := HO3.out
  have tl := hT.lt
  have ml := hMp.lt
  have s5 := F45.size
  simp only [List.nodup_cons, List.mem_cons, List.not_mem_nil, or_false, not_or, not_false_eq_true, List.nodup_nil, and_true] at hnd
  have hst : StoreAt w5 w1.heap.size ⟨o, .slice none 0 0, tab, tm, tc, slo, c, m, cb⟩ n room false [] K (List.replicate 768 0) sl := by
    refine ⟨hB, hOO.fr F45 (by simp; omega), hN, hT, hMp, hCC.fr F45 (by simp; omega) (by simp; omega) (by simp; omega), ?_, ?_, ⟨h1, h8⟩, ⟨r1, r2⟩, Nat.zero_le _, Nat.zero_le _, by rw [hK]; omega, wf_nil n, by rw [hK]; exact hI, Bdd.CacheInv.none n [] 256, fun l _ => ?_⟩
    · show ([w1.heap.size, o, tab, tm, tc, slo, c, m, cb] ++ []).Nodup
      rw [List.append_nil]
      simp only [List.nodup_cons, List.mem_cons, List.not_mem_nil, or_false, not_or, not_false_eq_true, List.nodup_nil, and_true]
      refine ⟨⟨?_, ?_, ?_, ?_, ?_, ?_, ?_, ?_⟩, ⟨?_, ?_, ?_, ?_, ?_, ?_, ?_⟩, ⟨hnd.1.1, hnd.1.2.1, hnd.1.2.2, ?_, ?_, ?_⟩, ⟨hnd.2.1.1, hnd.2.1.2, ?_, ?_, ?_⟩, ⟨hnd.2.2, ?_, ?_, ?_⟩, ⟨?_, ?_, ?_⟩, ⟨ncm, ncc⟩, nmc⟩ <;> omega
    · intro k hk
      rw [show Lay.blocks ⟨o, .slice none 0 0, tab, tm, tc, slo, c, m, cb⟩ w1.heap.size = [w1.heap.size, o, tab, tm, tc, slo, c, m, cb] ++ [] from rfl, List.append_nil] at hk
      simp only [List.mem_cons, List.not_mem_nil, or_false] at hk
      omega
    · have : K0 (List.replicate 768 0) (3 * l) = 0 := by
        show (List.replicate 768 0).getD (3 * l) 0 = 0
        rw [List.getD_eq_getElem?_getD, List.getElem?_replicate]; split <;> rfl
      rw [this]; omega
  have hfin : ∃ s B, (Ending.returned (.tuple #[.pointer (some ⟨w1.heap.size, 0, none⟩), .int .i64 0])) = Ending.returned (.tuple #[.pointer (some ⟨s, 0, none⟩), .int .i64 0]) ∧ Sto w5 s B n room false [] ∧ Fr [] w w5 ∧ ∀ k ∈ B, w.heap.size ≤ k := by
    refine ⟨_, _, rfl, hst.sto, F5, fun k hk => ?_⟩
    rw [show Lay.blocks ⟨o, .slice none 0 0, tab, tm, tc, slo, c, m, cb⟩ w1.heap.size = [w1.heap.size, o, tab, tm, tc, slo, c, m, cb] ++ [] from rfl, List.append_nil] at hk
    simp only [List.mem_cons, List.not_mem_nil, or_false] at hk
    omega
  have HF := Lib.hid hfin
  clear hfin hst hB hN hT hMp hI hCC hOO
  go_wp2
  go_ret2
  exact HF.out
end Go.Proofs.YtiojnjihbidbiaaGreat

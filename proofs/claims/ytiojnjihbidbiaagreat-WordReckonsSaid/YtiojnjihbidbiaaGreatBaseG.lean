/- order, walked: the order in which each variable lies at its own level. -/
import Derived.Test.YtiojnjihbidbiaaGreatOrd
import Derived.Test.YtiojnjihbidbiaaGreatBaseF
namespace Go.Proofs.YtiojnjihbidbiaaGreat
open Go.RowKit
attribute [local go_sem ↓] Go.wp_at_zero Go.wp_at_succ
attribute [local go_sem ↓] run_min run_max
set_option linter.unusedVariables false

/-- A level's variable, or a variable's level, where there is one. -/
theorem ovar_any (b n k : Nat) (w : World) (h : Blk w b (ordCells n) 206) (hk : k < n) (hn : n ≤ 8) :
    Calls Tryz.prog 120 #[.pointer (some ⟨b, 0, none⟩), .int .i64 (k : Int)] w fun e w' => e = .returned (.int .i64 (k : Int)) ∧ w = w' := by
  have c0 := h.cell 0 (v := .int .i64 (n : Int)) rfl
  have ck := h.cell (1 + k) (ordCells_var hk hn)
  clear h
  go_enter Tryz.func120, Tryz.ntmps120
  go_wp2
  go_ret
  exact ⟨rfl, rfl⟩

theorem olevel_any (b n k : Nat) (w : World) (h : Blk w b (ordCells n) 206) (hk : k < n) (hn : n ≤ 8) :
    Calls Tryz.prog 206 #[.pointer (some ⟨b, 0, none⟩), .int .i64 (k : Int)] w fun e w' => e = .returned (.int .i64 (k : Int)) ∧ w = w' := by
  have c0 := h.cell 0 (v := .int .i64 (n : Int)) rfl
  have ck := h.cell (9 + k) (ordCells_level hk hn)
  clear h
  go_enter Tryz.func206, Tryz.ntmps206
  go_wp2
  go_ret
  exact ⟨rfl, rfl⟩

section
variable {w w' : World} {s n room : Nat} {off : Bool} {B : List Nat} {L : List Bdd.Nd}

theorem sto_order (h : Sto w s B n room off L) :
    Calls Tryz.prog 109 #[.pointer (some ⟨s, 0, none⟩)] w fun e w' => ∃ b', e = .returned (.pointer (some ⟨b', 0, none⟩)) ∧ Blk w' b' (ordCells n) 206 ∧ Fr [] w w' ∧ w.heap.size ≤ b' := by
  obtain ⟨y, K, C, sl, rfl, hs⟩ := h
  have c1 := hs.head.cell 1 (v := .pointer (some ⟨y.ord, 0, none⟩)) rfl
  go_enter Tryz.func109, Tryz.ntmps109
  go_wp2_with fail
  refine (ocopy_any y.ord n _ hs.ord).mono ?_
  rintro e w1 ⟨b', rfl, hB, hF, hlt⟩
  go_wp2
  go_ret
  exact ⟨b', rfl, hB, hF, hlt⟩

theorem mkc_le (l : Nat) : mkc l ≤ 31 := by unfold mkc; split <;> omega

theorem var_any (h : Sto w s B n room off L) {v : Nat} (hv : v < n) :
    Calls Tryz.prog 156 #[.pointer (some ⟨s, 0, none⟩), .int .i64 (v : Int)] w (FnPost s n room off B L w fun y => y v) := by
  have hn := h.vars.2
  go_enter Tryz.func156, Tryz.ntmps156
  go_wp2_with fail
  refine (sto_order h).mono ?_
  rintro e w1 ⟨b', rfl, hB, hF, hlt⟩
  go_wp2_with fail
  refine (olevel_any b' n v _ hB hv hn).mono ?_
  rintro e w2 ⟨rfl, rfl⟩
  go_wp2_with fail
  have h1 := h.fr hF (by simp)
  refine (sto_mk h1 v 0 1 hv (Bdd.IsNd.zero _) (Bdd.IsNd.one _) (by rw [Bdd.lev_const (by omega)]; exact hv) (by rw [Bdd.lev_const (by omega)]; exact hv)).mono ?_
  intro e w2 hp
  have hq : FnPost s n room off B L w (fun y => y v) e w2 := by
    refine OpPost.mono (OpPost.after (h1.evo hF (by simp)) hp (Nat.le_refl _)) (by have := mkc_le v; omega) fun L' c k g hk => ⟨hk.1, fun y => ?_⟩
    show _ = y v
    rw [hk.2, Bdd.D_one, Bdd.D_zero]; cases y v <;> rfl
  obtain ⟨x, y, rfl⟩ := OpPost.form hp
  have HQ := Lib.hid hq
  clear hp hq
  go_wp2
  go_ret2
  exact HQ.out
end
end Go.Proofs.YtiojnjihbidbiaaGreat
/- order.New, walked. -/
namespace Go.Proofs.YtiojnjihbidbiaaGreat
open Go.RowKit
attribute [local go_sem ↓] Go.wp_at_zero Go.wp_at_succ
attribute [local go_sem ↓] run_min run_max
set_option linter.unusedVariables false

theorem ordC_next2 (n : Nat) : ∀ k, k < 8 → ((ordC n k).setIfInBounds (1 + k) (.int .i64 (k : Int))).setIfInBounds (9 + k) (.int .i64 (k : Int)) = ordC n (k + 1)
  | 0, _ => rfl | 1, _ => rfl | 2, _ => rfl | 3, _ => rfl | 4, _ => rfl | 5, _ => rfl | 6, _ => rfl | 7, _ => rfl
  | k + 8, h => absurd h (by omega)
theorem ordC_next3 (n : Nat) : ∀ k, k < 8 → ((ordC n k).setIfInBounds (9 + k) (.int .i64 (k : Int))).setIfInBounds (1 + k) (.int .i64 (k : Int)) = ordC n (k + 1)
  | 0, _ => rfl | 1, _ => rfl | 2, _ => rfl | 3, _ => rfl | 4, _ => rfl | 5, _ => rfl | 6, _ => rfl | 7, _ => rfl
  | k + 8, h => absurd h (by omega)
theorem ordC_at (n : Nat) : ∀ k, k < 8 → (ordC n k)[1 + k]? = some (.int .i64 0) ∧ (ordC n k)[9 + k]? = some (.int .i64 0)
  | 0, _ => ⟨rfl, rfl⟩ | 1, _ => ⟨rfl, rfl⟩ | 2, _ => ⟨rfl, rfl⟩ | 3, _ => ⟨rfl, rfl⟩ | 4, _ => ⟨rfl, rfl⟩ | 5, _ => ⟨rfl, rfl⟩ | 6, _ => ⟨rfl, rfl⟩ | 7, _ => ⟨rfl, rfl⟩
  | k + 8, h => absurd h (by omega)

def OrdRel (n b : Nat) (w : World) (k : Nat) (wr : World) : Prop := Blk wr b (ordC n k) 206 ∧ Fr [] w wr ∧ w.heap.size ≤ b

theorem OrdRel.next {n b k : Nat} {w wr : World} (h : OrdRel n b w k wr) (hk : k < 8) : OrdRel n b w (k + 1) ((wr.setCell ⟨b, 1 + k, none⟩ (.int .i64 (k : Int))).setCell ⟨b, 9 + k, none⟩ (.int .i64 (k : Int))) := by
  obtain ⟨h1, h2, h3⟩ := h
  refine ⟨?_, (h2.setCell _ (.inr h3)).setCell _ (.inr h3), h3⟩
  have := (h1.set (1 + k) (.int .i64 (k : Int))).set (9 + k) (.int .i64 (k : Int))
  rw [ordC_next2 n k hk] at this; exact this
theorem OrdRel.next' {n b k : Nat} {w wr : World} (h : OrdRel n b w k wr) (hk : k < 8) : OrdRel n b w (k + 1) ((wr.setCell ⟨b, 9 + k, none⟩ (.int .i64 (k : Int))).setCell ⟨b, 1 + k, none⟩ (.int .i64 (k : Int))) := by
  obtain ⟨h1, h2, h3⟩ := h
  refine ⟨?_, (h2.setCell _ (.inr h3)).setCell _ (.inr h3), h3⟩
  have := (h1.set (9 + k) (.int .i64 (k : Int))).set (1 + k) (.int .i64 (k : Int))
  rw [ordC_next3 n k hk] at this; exact this
theorem OrdRel.drewN {n b k : Nat} {w wr : World} (h : OrdRel n b w k wr) (m : Nat) : OrdRel n b w k (wr.drewN m) := ⟨h.1.drewN m, h.2.1.drewN m, h.2.2⟩

theorem OrdRel.start (n : Nat) (w : World) : OrdRel n w.heap.size w 0 (w.alloc (.cells (ordC n 0) 206)) := ⟨Blk.new w _ _, (Fr.refl [] w).alloc _, Nat.le_refl _⟩

set_option maxHeartbeats 1000000 in
theorem onew_any (n : Nat) (w : World) (h1 : 1 ≤ n) (h8 : n ≤ 8) :
    Calls Tryz.prog 92 #[.int .i64 (n : Int)] w fun e w' => ∃ b, e = .returned (.pointer (some ⟨b, 0, none⟩)) ∧ Blk w' b (ordCells n) 206 ∧ Fr [] w w' ∧ w.heap.size ≤ b := by
  have m1 : ∀ (w : World) (ts : Array TypeId) (t : TypeId), (Builtin.max_ ts t #[.int .i64 (n : Int), .int .i64 1]).run Tryz.prog w = .ok (.int .i64 (n : Int)) w := fun w ts t => by
    rw [show (1 : Int) = ((1 : Nat) : Int) from rfl, run_max, Nat.max_eq_left h1]
  have m2 : ∀ (w : World) (ts : Array TypeId) (t : TypeId), (Builtin.min_ ts t #[.int .i64 (n : Int), .int .i64 8]).run Tryz.prog w = .ok (.int .i64 (n : Int)) w := fun w ts t => by
    rw [show (8 : Int) = ((8 : Nat) : Int) from rfl, run_min, Nat.min_eq_left h8]
  have R0 := Lib.hid (OrdRel.start n w)
  have n1 : ¬ (n : Int) < 1 := by omega
  have n8 : ¬ (8 : Int) < (n : Int) := by omega
  go_enter Tryz.func92, Tryz.ntmps92
  go_wp2_with fail
  go_loopg [14] n (fun k i wr => ∃ j : Nat, j ≤ n ∧ k = n - j ∧ i = .int .i64 (j : Int) ∧ OrdRel n w.heap.size w j wr)
  case atStart => exact ⟨0, by omega, by omega, rfl, R0.out⟩
  case round =>
    obtain ⟨j, hj, hk, rfl, hr⟩ := hrel
    have c0 := hr.1.cell 0 (v := .int .i64 (n : Int)) rfl
    by_cases hlt : j < n
    · have a1 := hr.1.cell (1 + j) (ordC_at n j (by omega)).1
      have a9 := hr.1.cell (9 + j) (ordC_at n j (by omega)).2
      have f1 := hr.1.free (1 + j)
      have f9 := hr.1.free (9 + j)
      have nx := Lib.hid (hr.next (by omega))
      have nx' := Lib.hid (hr.next' (by omega))
      clear hr
      go_wp2_with fail
      go_region
      all_goals
        go_wp2
        go_roundg (n - (j + 1))
        case measure => omega
        case rel => exact ⟨j + 1, by omega, rfl, by go_num, by first | exact nx.out.drewN 0 | exact nx'.out.drewN 0 | exact nx.out.drewN 1 | exact nx'.out.drewN 1 | exact nx.out | exact nx'.out⟩
    · have e : j = n := by omega
      subst e
      have hB := Lib.hid hr
      clear hr
      go_wp2
      go_ret
      exact ⟨_, rfl, hB.out.1, hB.out.2.1, hB.out.2.2⟩
end Go.Proofs.YtiojnjihbidbiaaGreat
/- nodes.New, walked: an empty store. -/
namespace Go.Proofs.YtiojnjihbidbiaaGreat
open Go.RowKit
attribute [local go_sem ↓] Go.wp_at_zero Go.wp_at_succ
set_option linter.unusedVariables false

theorem ccells_any (w : World) :
    Calls Tryz.prog 95 #[.int .i64 256] w fun e w' => e = .returned (.int .i64 768) ∧ w = w' := by
  go_enter Tryz.func95, Tryz.ntmps95
  go_wp2
  go_ret
  exact ⟨rfl, rfl⟩

theorem cnew_any (m cb : Nat) (w : World) (h : MemAt w m cb (List.replicate 768 0)) :
    Calls Tryz.prog 93 #[.pointer (some ⟨m, 0, none⟩), .int .i64 0, .int .i64 256] w fun e w' => ∃ c, e = .returned (.tuple #[.pointer (some ⟨c, 0, none⟩), .int .i64 0]) ∧ CacheAt w' c m cb (List.replicate 768 0) ∧ Fr [] w w' ∧ w.heap.size ≤ c := by
  have H := Lib.hid h
  have hlt := h.lt
  have M1 : ∀ w', w = w' → Calls Tryz.prog 159 #[.pointer (some ⟨m, 0, none⟩)] w' fun e w' => e = .returned (.int .i64 768) ∧ w = w' := fun w' hw => by
    subst hw
    exact (mlen_any m cb _ w H.out).mono fun e w' ⟨e1, e2⟩ => ⟨by rw [e1, List.length_replicate]; rfl, e2⟩
  have hB := Blk.new w #[.pointer (some ⟨m, 0, none⟩), .int .i64 0, .int .i64 256] 208
  have hfin : CacheAt (w.alloc (.cells #[.pointer (some ⟨m, 0, none⟩), .int .i64 0, .int .i64 256] 208)) w.heap.size m cb (List.replicate 768 0) :=
    ⟨hB, h.fr ((Fr.refl [] w).alloc _) (by simp) (by simp), by omega, by omega, List.length_replicate⟩
  have HF := Lib.hid hfin
  clear hfin hB h
  go_enter Tryz.func93, Tryz.ntmps93
  go_wp2_with fail
  refine (M1 _ rfl).mono ?_
  rintro e w' ⟨rfl, rfl⟩
  go_wp2_with fail
  refine (ccells_any _).mono ?_
  rintro e w' ⟨rfl, rfl⟩
  go_wp2_with fail
  refine (M1 _ rfl).mono ?_
  rintro e w' ⟨rfl, rfl⟩
  go_wp2
  go_ret2
  exact ⟨_, rfl, HF.out, (Fr.refl [] w).alloc _, Nat.le_refl _⟩

theorem wf_nil (n : Nat) : Bdd.Wf n (Bdd.tab []) := by
  have e : ∀ {k d}, Bdd.tab [] k = some d → False := fun {k d} h => by
    obtain ⟨_, h⟩ := Bdd.tab_some h
    simp at h
  exact ⟨fun h => (e h).elim, fun h => (e h).elim, fun h => (e h).elim, fun h => (e h).elim, fun h => (e h).elim, fun h => (e h).elim, fun h => (e h).elim, fun h => (e h).elim⟩

theorem nodes_nil (w : World) : NodesAt w (.slice none 0 0) [] := ⟨rfl, .inl ⟨rfl, rfl⟩⟩

theorem snew_any (n room : Nat) (w : World) (h1 : 1 ≤ n) (h8 : n ≤ 8) (r1 : 1 ≤ room) (r2 : room ≤ 32768) :
    Calls Tryz.prog 30 #[.int .i64 (n : Int), .int .i64 (room : Int)] w fun e w' => ∃ s B, e = .returned (.tuple #[.pointer (some ⟨s, 0, none⟩), .int .i64 0]) ∧ Sto w' s B n room false [] ∧ Fr [] w w' ∧ ∀ k ∈ B, w.heap.size ≤ k := by
  have n1 : ¬ (n : Int) < 1 := by omega
  have n8 : ¬ (8 : Int) < (n : Int) := by omega
  have n2 : ¬ (room : Int) < 1 := by omega
  have n9 : ¬ (32768 : Int) < (room : Int) := by omega
  go_enter Tryz.func30, Tryz.ntmps30
  go_wp2_with fail
  refine (onew_any n _ h1 h8).mono ?_
  rintro e w1 ⟨o, rfl, hO, hF1, ho⟩
  have hS := Blk.new w1 #[.int .i64 (room : Int), .pointer (some ⟨o, 0, none⟩), .slice none 0 0, .slice none 0 0, .pointer none, .map none, .pointer none, .bool false] 134
  go_wp2_with fail
  refine (ccells_any _).mono ?_
  rintro e w' ⟨rfl, rfl⟩
  go_wp2_with fail
  refine (mnew_any 768 _ (by omega)).mono ?_
  rintro e w2 ⟨m, cb, rfl, hM, hF2, hm, hcb⟩
  go_wp2_with fail
  refine (cnew_any m cb _ hM).mono ?_
  rintro e w3 ⟨c, rfl, hC, hF3, hc⟩
  have hS3 := (hS.fr hF2 (by simp)).fr hF3 (by simp)
  have c6 := hS3.cell 6 (v := .pointer none) rfl
  have f6 := hS3.free 6
  have hS4 := hS3.set 6 (.pointer (some ⟨c, 0, none⟩))
  have hO3 := ((hO.alloc (.cells #[.int .i64 (room : Int), .pointer (some ⟨o, 0, none⟩), .slice none 0 0, .slice none 0 0, .pointer none, .map none, .pointer none, .bool false] 134)).fr hF2 (by simp)).fr hF3 (by simp)
  have HS4 := Lib.hid hS4
  have HO3 := Lib.hid hO3
  have HC := Lib.hid hC
  have hsz1 := hF1.size
  have hsz2 := hF2.size
  have hsz3 := hF3.size
  have hOl := hO.lt
  rw [World.size_alloc] at hsz2 hm hcb
  have hCl := hC.lt
  have hMl := hM.lt
  have F3 : Fr [] w w3 := ((hF1.alloc _).then hF2).then hF3
  clear hS hS3 hS4 hO hO3 hC hM hF2 hF3 hF1
  go_wp2_with fail
  refine (grows_any w1.heap.size 32 _ _ (.slice none 0 0) _ _ _ _ _ n [] _ (by exact HS4.out) (nodes_nil _) (fun k hk => by cases hk) (by omega) (by omega) (by simp) (by simp) (wf_nil n) h8).mono ?_
  rintro e w5 ⟨rfl, tab, tm, tc, slo, K, sl, hK, hB, hN, hT, hMp, hI, hF5, g1, g2, g3, g4, hnd⟩
  have F45 : Fr [w1.heap.size] w3 w5 := ((Fr.refl [w1.heap.size] w3).setCell (p := ⟨w1.heap.size, 6, none⟩) (.pointer (some ⟨c, 0, none⟩)) (.inl (by simp))).then hF5
  have e4 : (w3.setCell ⟨w1.heap.size, 6, none⟩ (.pointer (some ⟨c, 0, none⟩))).heap.size = w3.heap.size := by simp [World.setCell]
  rw [e4] at g1 g2 g3 g4
  have F5 : Fr [] w w5 := F3.trans F45 (fun x hx => by simp only [List.mem_singleton] at hx; subst hx; exact .inr hsz1)
  have hCC := HC.out
  have ncm := hCC.2.2.1
  have ncc := hCC.2.2.2.1
  have nmc : m ≠ cb := by obtain ⟨_, _, _, _, hne⟩ := hCC.2.1; exact hne
  have hOO := HO3.out
  have tl := hT.lt
  have ml := hMp.lt
  have s5 := F45.size
  simp only [List.nodup_cons, List.mem_cons, List.not_mem_nil, or_false, not_or, not_false_eq_true, List.nodup_nil, and_true] at hnd
  have hst : StoreAt w5 w1.heap.size ⟨o, .slice none 0 0, tab, tm, tc, slo, c, m, cb⟩ n room false [] K (List.replicate 768 0) sl := by
    refine ⟨hB, hOO.fr F45 (by simp; omega), hN, hT, hMp, hCC.fr F45 (by simp; omega) (by simp; omega) (by simp; omega), ?_, ?_, ⟨h1, h8⟩, ⟨r1, r2⟩, Nat.zero_le _, Nat.zero_le _, by rw [hK]; omega, wf_nil n, by rw [hK]; exact hI, Bdd.CacheInv.none n [] 256, fun l _ => ?_⟩
    · show ([w1.heap.size, o, tab, tm, tc, slo, c, m, cb] ++ []).Nodup
      rw [List.append_nil]
      simp only [List.nodup_cons, List.mem_cons, List.not_mem_nil, or_false, not_or, not_false_eq_true, List.nodup_nil, and_true]
      refine ⟨⟨?_, ?_, ?_, ?_, ?_, ?_, ?_, ?_⟩, ⟨?_, ?_, ?_, ?_, ?_, ?_, ?_⟩, ⟨hnd.1.1, hnd.1.2.1, hnd.1.2.2, ?_, ?_, ?_⟩, ⟨hnd.2.1.1, hnd.2.1.2, ?_, ?_, ?_⟩, ⟨hnd.2.2, ?_, ?_, ?_⟩, ⟨?_, ?_, ?_⟩, ⟨ncm, ncc⟩, nmc⟩ <;> omega
    · intro k hk
      rw [show Lay.blocks ⟨o, .slice none 0 0, tab, tm, tc, slo, c, m, cb⟩ w1.heap.size = [w1.heap.size, o, tab, tm, tc, slo, c, m, cb] ++ [] from rfl, List.append_nil] at hk
      simp only [List.mem_cons, List.not_mem_nil, or_false] at hk
      omega
    · have : K0 (List.replicate 768 0) (3 * l) = 0 := by
        show (List.replicate 768 0).getD (3 * l) 0 = 0
        rw [List.getD_eq_getElem?_getD, List.getElem?_replicate]; split <;> rfl
      rw [this]; omega
  have hfin : ∃ s B, (Ending.returned (.tuple #[.pointer (some ⟨w1.heap.size, 0, none⟩), .int .i64 0])) = Ending.returned (.tuple #[.pointer (some ⟨s, 0, none⟩), .int .i64 0]) ∧ Sto w5 s B n room false [] ∧ Fr [] w w5 ∧ ∀ k ∈ B, w.heap.size ≤ k := by
    refine ⟨_, _, rfl, hst.sto, F5, fun k hk => ?_⟩
    rw [show Lay.blocks ⟨o, .slice none 0 0, tab, tm, tc, slo, c, m, cb⟩ w1.heap.size = [w1.heap.size, o, tab, tm, tc, slo, c, m, cb] ++ [] from rfl, List.append_nil] at hk
    simp only [List.mem_cons, List.not_mem_nil, or_false] at hk
    omega
  have HF := Lib.hid hfin
  clear hfin hst hB hN hT hMp hI hCC hOO
  go_wp2
  go_ret2
  exact HF.out
end Go.Proofs.YtiojnjihbidbiaaGreat

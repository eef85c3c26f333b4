/- A store's readers, walked: which handles are nodes, their levels and children. -/
import Derived.Test.YtiojnjihbidbiaaGreatStore
namespace Go.Proofs.YtiojnjihbidbiaaGreat
open Go.RowKit
attribute [local go_sem ↓] Go.wp_at_zero Go.wp_at_succ
set_option linter.unusedVariables false

section
variable {w : World} {s : Nat} {y : Lay} {n room : Nat} {off : Bool} {L : List Bdd.Nd} {K C : List Nat} {sl : Nat → Option Nat}

theorem olen_any (b n : Nat) (w : World) (h : Blk w b (ordCells n) 206) :
    Calls Tryz.prog 172 #[.pointer (some ⟨b, 0, none⟩)] w fun e w' => e = .returned (.int .i64 (n : Int)) ∧ w = w' := by
  have c0 := h.cell 0 (v := .int .i64 (n : Int)) rfl
  go_enter Tryz.func172, Tryz.ntmps172
  go_wp2
  go_ret
  exact ⟨rfl, rfl⟩

theorem vars_any (h : StoreAt w s y n room off L K C sl) :
    Calls Tryz.prog 118 #[.pointer (some ⟨s, 0, none⟩)] w fun e w' => e = .returned (.int .i64 (n : Int)) ∧ w = w' := by
  have c1 := h.head.cell 1 rfl
  have ho := h.ord
  clear h
  go_enter Tryz.func118, Tryz.ntmps118
  go_wp2_with fail
  refine (olen_any _ _ _ ho).mono ?_
  rintro e w' ⟨rfl, rfl⟩
  go_wp2
  go_ret
  exact ⟨rfl, rfl⟩

/-- A handle below 2 is no inner node's. -/
theorem nat_small (s : Nat) (hd : Int) (w : World) (h2 : hd < 2) :
    Calls Tryz.prog 97 #[.pointer (some ⟨s, 0, none⟩), .int .u32 hd] w fun e w' => e = .returned (.pointer none) ∧ w = w' := by
  go_enter Tryz.func97, Tryz.ntmps97
  go_wp2
  go_ret
  exact ⟨rfl, rfl⟩

/-- A handle behind the last node's. -/
theorem nat_far (s len cap : Nat) (a : Option Addr) (hd : Int) (w : World) (c2 : w.cell? ⟨s, 2, none⟩ = some (.slice a len cap)) (h1 : (len : Int) + 2 ≤ hd) (h2 : hd < 4294967296) (hl : len ≤ 32768) :
    Calls Tryz.prog 97 #[.pointer (some ⟨s, 0, none⟩), .int .u32 hd] w fun e w' => e = .returned (.pointer none) ∧ w = w' := by
  go_enter Tryz.func97, Tryz.ntmps97
  go_wp2
  go_ret
  exact ⟨rfl, rfl⟩

theorem nat_in (s g len cap i : Nat) (hd : Int) (w : World) (c2 : w.cell? ⟨s, 2, none⟩ = some (.slice (some ⟨g, 0, none⟩) len cap)) (h1 : hd = (i : Int) + 2) (h2 : i < len) (hl : len ≤ 32768)
    (ct : w.cell? ⟨g, i * 4, none⟩ = some (.bool true)) :
    Calls Tryz.prog 97 #[.pointer (some ⟨s, 0, none⟩), .int .u32 hd] w fun e w' => e = .returned (.pointer (some ⟨g, i * 4, none⟩)) ∧ w = w' := by
  subst h1
  go_enter Tryz.func97, Tryz.ntmps97
  go_wp2
  go_ret
  exact ⟨rfl, rfl⟩

theorem is_any (h : StoreAt w s y n room off L K C sl) (hd : Int) (h0 : 0 ≤ hd) (h1 : hd < 4294967296) :
    Calls Tryz.prog 31 #[.pointer (some ⟨s, 0, none⟩), .int .u32 hd] w fun e w' => e = .returned (.bool (decide (hd < (L.length : Int) + 2))) ∧ w = w' := by
  have hlen := h.len
  have hrm := h.rooms.2
  obtain ⟨a, cap, hnv, hcap⟩ := h.nodes.shape
  have c2 := h.head.cell 2 (v := y.nv) rfl
  by_cases h2 : hd < 2
  · have e : decide (hd < (L.length : Int) + 2) = true := by simp; omega
    rw [e]
    clear h c2 hnv e
    go_enter Tryz.func31, Tryz.ntmps31
    go_wp2_with fail
    go_ret
    exact ⟨rfl, rfl⟩
  · by_cases h3 : hd < (L.length : Int) + 2
    · obtain ⟨i, rfl⟩ : ∃ i : Nat, hd = (i : Int) + 2 := ⟨(hd - 2).toNat, by omega⟩
      have hi : i < L.length := by omega
      obtain ⟨g, cap', hv, hc', k0, -, -, -⟩ := h.nodes.node (List.getElem?_eq_getElem hi)
      rw [hv] at c2
      have e : decide ((i : Int) + 2 < (L.length : Int) + 2) = true := by simp; omega
      rw [e]
      clear h hnv hv e h0 h1 h2 h3
      go_enter Tryz.func31, Tryz.ntmps31
      go_wp2_with fail
      refine (nat_in s g L.length cap' i _ _ c2 rfl hi (by omega) k0).mono ?_
      rintro e w' ⟨rfl, rfl⟩
      go_wp2
      go_ret
      exact ⟨rfl, rfl⟩
    · rw [hnv] at c2
      have e : decide (hd < (L.length : Int) + 2) = false := by simp; omega
      rw [e]
      clear h hnv e
      go_enter Tryz.func31, Tryz.ntmps31
      go_wp2_with fail
      refine (nat_far s L.length cap a _ _ c2 (by omega) h1 (by omega)).mono ?_
      rintro e w' ⟨rfl, rfl⟩
      go_wp2
      go_ret
      exact ⟨ret_bool (by simp; omega), rfl⟩

theorem isNd_is (h : StoreAt w s y n room off L K C sl) {k : Nat} (hk : Bdd.IsNd (Bdd.tab L) k) :
    Calls Tryz.prog 31 #[.pointer (some ⟨s, 0, none⟩), .int .u32 (k : Int)] w fun e w' => e = .returned (.bool true) ∧ w = w' := by
  have hl := Bdd.isNd_tab.1 hk
  have h1 := h.len
  have h2 := h.rooms.2
  refine (is_any h (k : Int) (by omega) (by omega)).mono ?_
  rintro e w' ⟨rfl, rfl⟩
  exact ⟨ret_bool (by simp; omega), rfl⟩

theorem level_any (h : StoreAt w s y n room off L K C sl) {k : Nat} (hk : Bdd.IsNd (Bdd.tab L) k) :
    Calls Tryz.prog 126 #[.pointer (some ⟨s, 0, none⟩), .int .u32 (k : Int)] w fun e w' => e = .returned (.int .i64 (Bdd.lev n (Bdd.tab L) k : Nat)) ∧ w = w' := by
  have hlen := h.len
  have hrm := h.rooms.2
  have c2 := h.head.cell 2 (v := y.nv) rfl
  rcases Nat.lt_or_ge k 2 with k2 | k2
  · rw [Bdd.lev_const k2]
    go_enter Tryz.func126, Tryz.ntmps126
    go_wp2_with fail
    refine (vars_any h).mono ?_
    rintro e w' ⟨rfl, rfl⟩
    go_wp2
    go_ret
    exact ⟨rfl, rfl⟩
  · obtain ⟨d, hd⟩ := hk.node k2
    have ⟨_, hd'⟩ := Bdd.tab_some hd
    rw [Bdd.lev_node k2 hd]
    obtain ⟨g, cap', hv, hc', k0, k1, -, -⟩ := h.nodes.node hd'
    have hi := (List.getElem?_eq_some_iff.1 hd').1
    obtain ⟨i, rfl⟩ : ∃ i, k = i + 2 := ⟨k - 2, by omega⟩
    simp only [Nat.add_sub_cancel] at hi k0 k1
    rw [hv] at c2
    clear h hv hd hd' hk
    go_enter Tryz.func126, Tryz.ntmps126
    go_wp2_with fail
    refine (nat_in s g L.length cap' i _ _ c2 (by omega) hi (by omega) k0).mono ?_
    rintro e w' ⟨rfl, rfl⟩
    go_wp2
    go_ret
    exact ⟨rfl, rfl⟩

theorem low_any (h : StoreAt w s y n room off L K C sl) {k : Nat} {d : Bdd.Nd} (hd : Bdd.tab L k = some d) :
    Calls Tryz.prog 127 #[.pointer (some ⟨s, 0, none⟩), .int .u32 (k : Int)] w fun e w' => e = .returned (.int .u32 (d.lo : Int)) ∧ w = w' := by
  have hlen := h.len
  have hrm := h.rooms.2
  have c2 := h.head.cell 2 (v := y.nv) rfl
  have ⟨k2, hd'⟩ := Bdd.tab_some hd
  obtain ⟨g, cap', hv, hc', k0, -, k1, -⟩ := h.nodes.node hd'
  have hi := (List.getElem?_eq_some_iff.1 hd').1
  obtain ⟨i, rfl⟩ : ∃ i, k = i + 2 := ⟨k - 2, by omega⟩
  simp only [Nat.add_sub_cancel] at hi k0 k1
  rw [hv] at c2
  clear h hv hd hd'
  go_enter Tryz.func127, Tryz.ntmps127
  go_wp2_with fail
  refine (nat_in s g L.length cap' i _ _ c2 (by omega) hi (by omega) k0).mono ?_
  rintro e w' ⟨rfl, rfl⟩
  go_wp2
  go_ret
  exact ⟨rfl, rfl⟩

theorem high_any (h : StoreAt w s y n room off L K C sl) {k : Nat} {d : Bdd.Nd} (hd : Bdd.tab L k = some d) :
    Calls Tryz.prog 128 #[.pointer (some ⟨s, 0, none⟩), .int .u32 (k : Int)] w fun e w' => e = .returned (.int .u32 (d.hi : Int)) ∧ w = w' := by
  have hlen := h.len
  have hrm := h.rooms.2
  have c2 := h.head.cell 2 (v := y.nv) rfl
  have ⟨k2, hd'⟩ := Bdd.tab_some hd
  obtain ⟨g, cap', hv, hc', k0, -, -, k1⟩ := h.nodes.node hd'
  have hi := (List.getElem?_eq_some_iff.1 hd').1
  obtain ⟨i, rfl⟩ : ∃ i, k = i + 2 := ⟨k - 2, by omega⟩
  simp only [Nat.add_sub_cancel] at hi k0 k1
  rw [hv] at c2
  clear h hv hd hd'
  go_enter Tryz.func128, Tryz.ntmps128
  go_wp2_with fail
  refine (nat_in s g L.length cap' i _ _ c2 (by omega) hi (by omega) k0).mono ?_
  rintro e w' ⟨rfl, rfl⟩
  go_wp2
  go_ret
  exact ⟨rfl, rfl⟩

theorem slen_any (h : StoreAt w s y n room off L K C sl) :
    Calls Tryz.prog 84 #[.pointer (some ⟨s, 0, none⟩)] w fun e w' => e = .returned (.int .i64 (L.length : Int)) ∧ ∃ m, w' = w.drewN m := by
  have hlen := h.len
  have hrm := h.rooms.2
  obtain ⟨a, cap, hnv, hcap⟩ := h.nodes.shape
  have c2 := h.head.cell 2 (v := y.nv) rfl
  have c3 := h.head.cell 3 rfl
  rw [hnv] at c2
  have hw : IntKind.i64.wrap ((L.length : Int) - 0) = (L.length : Int) := by rw [Int.sub_zero]; exact IntWalk.i64_in _ (by omega)
  have hw' : IntKind.i64.wrap (L.length : Int) = (L.length : Int) := IntWalk.i64_in _ (by omega)
  clear h hnv
  go_enter Tryz.func84, Tryz.ntmps84
  go_wp2_with fail
  go_quiet (fail)
  go_wp2
  go_ret
  exact ⟨rfl, _, rfl⟩

theorem room_any (h : StoreAt w s y n room off L K C sl) :
    Calls Tryz.prog 85 #[.pointer (some ⟨s, 0, none⟩)] w fun e w' => e = .returned (.int .i64 (room : Int)) ∧ w = w' := by
  have c0 := h.head.cell 0 rfl
  clear h
  go_enter Tryz.func85, Tryz.ntmps85
  go_wp2
  go_ret
  exact ⟨rfl, rfl⟩

theorem key_any (l a b : Nat) (w : World) (hl : l < 256) (ha : a < 268435456) (hb : b < 268435456) :
    Calls Tryz.prog 173 #[.int .i64 (l : Int), .int .u32 (a : Int), .int .u32 (b : Int)] w fun e w' => e = .returned (.int .u64 (Bdd.keyN ⟨l, a, b⟩ : Nat)) ∧ w = w' := by
  go_enter Tryz.func173, Tryz.ntmps173
  go_wp2_with fail
  refine (node_any l a b _ hl ha hb).mono ?_
  rintro e w' ⟨rfl, rfl⟩
  go_wp2
  go_ret
  exact ⟨rfl, rfl⟩

end
end Go.Proofs.YtiojnjihbidbiaaGreat

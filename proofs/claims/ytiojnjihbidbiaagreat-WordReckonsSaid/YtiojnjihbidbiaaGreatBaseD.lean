/- A store of nodes in memory: what its blocks hold; its readers, walked. -/
import Derived.Test.YtiojnjihbidbiaaGreatBaseC
import Derived.Test.YtiojnjihbidbiaaGreatBaseA
import Derived.Deep.AppendLies
namespace Go.Proofs.YtiojnjihbidbiaaGreat
open Go.RowKit
attribute [local go_sem ↓] Go.wp_at_zero Go.wp_at_succ
set_option linter.unusedVariables false

/-- Where a store's parts lie. -/
structure Lay where
  ord : Nat
  nv : Value
  tab : Nat
  tm : Nat
  tc : Nat
  slo : Nat
  cac : Nat
  cm : Nat
  cc : Nat

def Lay.blocks (y : Lay) (s : Nat) : List Nat := [s, y.ord, y.tab, y.tm, y.tc, y.slo, y.cac, y.cm, y.cc] ++ y.nv.ownBlock.toList

/-- An order in which each variable lies at its own level. -/
def ordV (n i : Nat) : Int := if i < n then (i : Int) else 0
def ordCells (n : Nat) : Array Value :=
  #[.int .i64 (n : Int), .int .i64 (ordV n 0), .int .i64 (ordV n 1), .int .i64 (ordV n 2), .int .i64 (ordV n 3), .int .i64 (ordV n 4), .int .i64 (ordV n 5), .int .i64 (ordV n 6), .int .i64 (ordV n 7),
    .int .i64 (ordV n 0), .int .i64 (ordV n 1), .int .i64 (ordV n 2), .int .i64 (ordV n 3), .int .i64 (ordV n 4), .int .i64 (ordV n 5), .int .i64 (ordV n 6), .int .i64 (ordV n 7)]
theorem ordV_lt {n i : Nat} (h : i < n) : ordV n i = (i : Int) := by simp [ordV, h]
theorem ordCells_var {n i : Nat} (h : i < n) (hn : n ≤ 8) : (ordCells n)[1 + i]? = some (.int .i64 (i : Int)) := by
  rw [← ordV_lt h]
  have : i = 0 ∨ i = 1 ∨ i = 2 ∨ i = 3 ∨ i = 4 ∨ i = 5 ∨ i = 6 ∨ i = 7 := by omega
  rcases this with rfl | rfl | rfl | rfl | rfl | rfl | rfl | rfl <;> rfl
theorem ordCells_level {n i : Nat} (h : i < n) (hn : n ≤ 8) : (ordCells n)[9 + i]? = some (.int .i64 (i : Int)) := by
  rw [← ordV_lt h]
  have : i = 0 ∨ i = 1 ∨ i = 2 ∨ i = 3 ∨ i = 4 ∨ i = 5 ∨ i = 6 ∨ i = 7 := by omega
  rcases this with rfl | rfl | rfl | rfl | rfl | rfl | rfl | rfl <;> rfl

/-- The nodes' cells. -/
def nodeCells (L : List Bdd.Nd) : List Value := L.flatMap fun d => [.bool true, .int .i64 (d.lv : Int), .int .u32 (d.lo : Int), .int .u32 (d.hi : Int)]

theorem nodeCells_length (L : List Bdd.Nd) : (nodeCells L).length = L.length * 4 := by
  induction L with
  | nil => rfl
  | cons d L ih => simp only [nodeCells, List.flatMap_cons, List.length_append] at ih ⊢; simp only [ih, List.length_cons, List.length_nil]; omega

theorem nodeCells_get : ∀ (L : List Bdd.Nd) (i : Nat) (d : Bdd.Nd), L[i]? = some d →
    (nodeCells L)[i * 4]? = some (.bool true) ∧ (nodeCells L)[i * 4 + 1]? = some (.int .i64 (d.lv : Int)) ∧ (nodeCells L)[i * 4 + 2]? = some (.int .u32 (d.lo : Int)) ∧ (nodeCells L)[i * 4 + 3]? = some (.int .u32 (d.hi : Int))
  | [], i, d, h => by simp at h
  | c :: L, 0, d, h => by
    simp at h; subst h
    simp [nodeCells]
  | c :: L, i + 1, d, h => by
    have ih := nodeCells_get L i d (by simpa using h)
    have e : nodeCells (c :: L) = [.bool true, .int .i64 (c.lv : Int), .int .u32 (c.lo : Int), .int .u32 (c.hi : Int)] ++ nodeCells L := by simp [nodeCells]
    have s : ∀ j, ([Value.bool true, .int .i64 (c.lv : Int), .int .u32 (c.lo : Int), .int .u32 (c.hi : Int)] ++ nodeCells L)[(i + 1) * 4 + j]? = (nodeCells L)[i * 4 + j]? := fun j => by
      rw [List.getElem?_append_right (by simp; omega)]
      congr 1
      simp; omega
    rw [e]
    exact ⟨(s 0).trans ih.1, (s 1).trans ih.2.1, (s 2).trans ih.2.2.1, (s 3).trans ih.2.2.2⟩

/-- The slice v owns the nodes L. -/
def NodesAt (w : World) (v : Value) (L : List Bdd.Nd) : Prop := w.ownsRow 0 220 4 v L.length (nodeCells L)

theorem NodesAt.node {w : World} {v : Value} {L : List Bdd.Nd} (h : NodesAt w v L) {i : Nat} {d : Bdd.Nd} (hd : L[i]? = some d) :
    ∃ g cap, v = .slice (some ⟨g, 0, none⟩) L.length cap ∧ L.length ≤ cap ∧ w.cell? ⟨g, i * 4, none⟩ = some (.bool true) ∧ w.cell? ⟨g, i * 4 + 1, none⟩ = some (.int .i64 (d.lv : Int)) ∧
      w.cell? ⟨g, i * 4 + 2, none⟩ = some (.int .u32 (d.lo : Int)) ∧ w.cell? ⟨g, i * 4 + 3, none⟩ = some (.int .u32 (d.hi : Int)) := by
  have hi := (List.getElem?_eq_some_iff.1 hd).1
  obtain ⟨g0, g1, g2, g3⟩ := nodeCells_get L i d hd
  obtain ⟨hx, h⟩ := h
  rcases h with ⟨_, h0⟩ | ⟨g, cap, cur, rfl, _, hg, hc, hm, hs, ht⟩
  · omega
  · have cell : ∀ j u, (nodeCells L)[j]? = some u → w.cell? ⟨g, j, none⟩ = some u := fun j u hj => by
      simp only [World.cell?, hg]
      rw [← ht] at hj
      rw [List.getElem?_take] at hj
      split at hj
      · simpa using hj
      · cases hj
    exact ⟨g, cap, rfl, hc, cell _ _ g0, cell _ _ g1, cell _ _ g2, cell _ _ g3⟩

theorem NodesAt.shape {w : World} {v : Value} {L : List Bdd.Nd} (h : NodesAt w v L) : ∃ a cap, v = .slice a L.length cap ∧ L.length ≤ cap := by
  obtain ⟨_, h⟩ := h
  rcases h with ⟨rfl, h0⟩ | ⟨g, cap, cur, rfl, _, hg, hc, hm, hs, ht⟩
  · exact ⟨none, 0, by rw [h0], by omega⟩
  · exact ⟨_, _, rfl, hc⟩

theorem NodesAt.fr {O : List Nat} {w w' : World} {v : Value} {L : List Bdd.Nd} (h : NodesAt w v L) (f : Fr O w w') (hb : ∀ k, v.ownBlock = some k → k ∉ O) : NodesAt w' v L := by
  obtain ⟨h1, h2⟩ := h
  refine ⟨h1, ?_⟩
  rcases h2 with h2 | ⟨g, cap, cur, rfl, hb0, hg, r⟩
  · exact .inl h2
  · refine .inr ⟨g, cap, cur, rfl, hb0, ?_, r⟩
    rw [f.block g (Array.getElem?_eq_some_iff.1 hg).1 (hb g rfl)]; exact hg

/-- What the map of slots holds. -/
def slf (sl : Nat → Option Nat) : Int → Option Value := fun x => if 0 ≤ x then (sl x.toNat).map (fun (h : Nat) => Value.int .u32 (h : Int)) else none

/-- A store in memory: n variables, room for so many nodes, off: nothing is cached, the nodes L. -/
structure StoreAt (w : World) (s : Nat) (y : Lay) (n room : Nat) (off : Bool) (L : List Bdd.Nd) (K C : List Nat) (sl : Nat → Option Nat) : Prop where
  head : Blk w s #[.int .i64 (room : Int), .pointer (some ⟨y.ord, 0, none⟩), y.nv, .slice none 0 0, .pointer (some ⟨y.tab, 0, none⟩), .map (some y.slo), .pointer (some ⟨y.cac, 0, none⟩), .bool off] 134
  ord : Blk w y.ord (ordCells n) 206
  nodes : NodesAt w y.nv L
  table : TableAt w y.tab y.tm y.tc K
  slots : MapAt w y.slo .i64 (slf sl)
  cache : CacheAt w y.cac y.cm y.cc C
  apart : (y.blocks s).Nodup
  inside : ∀ k ∈ y.blocks s, k < w.heap.size
  vars : 1 ≤ n ∧ n ≤ 8
  rooms : 1 ≤ room ∧ room ≤ 32768
  len : L.length ≤ room
  half : 2 * L.length ≤ K.length
  big : K.length ≤ 131072
  wf : Bdd.Wf n (Bdd.tab L)
  tinv : Bdd.TabInv (homeF K.length) K sl L L.length
  cinv : Bdd.CacheInv n L 256 C
  vers : ∀ l, l < 256 → K0 C (3 * l) < 2 ^ 64

theorem StoreAt.fr {O : List Nat} {w w' : World} {s : Nat} {y : Lay} {n room : Nat} {off : Bool} {L : List Bdd.Nd} {K C : List Nat} {sl : Nat → Option Nat} (h : StoreAt w s y n room off L K C sl) (f : Fr O w w')
    (hO : ∀ k ∈ y.blocks s, k ∉ O) : StoreAt w' s y n room off L K C sl := by
  have m : ∀ k, k ∈ [s, y.ord, y.tab, y.tm, y.tc, y.slo, y.cac, y.cm, y.cc] → k ∉ O := fun k hk => hO k (List.mem_append_left _ hk)
  exact ⟨h.head.fr f (m _ (by simp)), h.ord.fr f (m _ (by simp)), h.nodes.fr f (fun k hk => hO k (List.mem_append_right _ (by simp [hk]))),
    h.table.fr f (m _ (by simp)) (m _ (by simp)) (m _ (by simp)), h.slots.fr f (m _ (by simp)), h.cache.fr f (m _ (by simp)) (m _ (by simp)) (m _ (by simp)), h.apart,
    fun k hk => by have := h.inside k hk; have := f.size; omega, h.vars, h.rooms, h.len, h.half, h.big, h.wf, h.tinv, h.cinv, h.vers⟩

end Go.Proofs.YtiojnjihbidbiaaGreat
/- A store's readers, walked: which handles are nodes, their levels and children. -/
namespace Go.Proofs.YtiojnjihbidbiaaGreat
open Go.RowKit
attribute [local go_sem ↓] Go.wp_at_zero Go.wp_at_succ
set_option linter.unusedVariables false

section
variable {w : World} {s : Nat} {y : Lay} {n room : Nat} {off : Bool} {L : List Bdd.Nd} {K C : List Nat} {sl : Nat → Option Nat}

theorem olen_any (b n : Nat) (w : World) (h : Blk w b (ordCells n) 206) :
    Calls Tryz.prog 172 #[.pointer (some ⟨b, 0, none⟩)] w fun e w' => e = .returned (.int .i64 (n : Int)) ∧ w = w' := by
  have c0 := h.cell 0 (v := .int .i64 (n : Int)) rfl
  go_enter Tryz.func172, Tryz.ntmps172
  go_wp2
  go_ret
  exact ⟨rfl, rfl⟩

theorem vars_any (h : StoreAt w s y n room off L K C sl) :
    Calls Tryz.prog 118 #[.pointer (some ⟨s, 0, none⟩)] w fun e w' => e = .returned (.int .i64 (n : Int)) ∧ w = w' := by
  have c1 := h.head.cell 1 rfl
  have ho := h.ord
  clear h
  go_enter Tryz.func118, Tryz.ntmps118
  go_wp2_with fail
  refine (olen_any _ _ _ ho).mono ?_
  rintro e w' ⟨rfl, rfl⟩
  go_wp2
  go_ret
  exact ⟨rfl, rfl⟩

/-- A handle below 2 is no inner node's. -/
theorem nat_small (s : Nat) (hd : Int) (w : World) (h2 : hd < 2) :
    Calls Tryz.prog 97 #[.pointer (some ⟨s, 0, none⟩), .int .u32 hd] w fun e w' => e = .returned (.pointer none) ∧ w = w' := by
  go_enter Tryz.func97, Tryz.ntmps97
  go_wp2
  go_ret
  exact ⟨rfl, rfl⟩

/-- A handle behind the last node's. -/
theorem nat_far (s len cap : Nat) (a : Option Addr) (hd : Int) (w : World) (c2 : w.cell? ⟨s, 2, none⟩ = some (.slice a len cap)) (h1 : (len : Int) + 2 ≤ hd) (h2 : hd < 4294967296) (hl : len ≤ 32768) :
    Calls Tryz.prog 97 #[.pointer (some ⟨s, 0, none⟩), .int .u32 hd] w fun e w' => e = .returned (.pointer none) ∧ w = w' := by
  go_enter Tryz.func97, Tryz.ntmps97
  go_wp2
  go_ret
  exact ⟨rfl, rfl⟩

theorem nat_in (s g len cap i : Nat) (hd : Int) (w : World) (c2 : w.cell? ⟨s, 2, none⟩ = some (.slice (some ⟨g, 0, none⟩) len cap)) (h1 : hd = (i : Int) + 2) (h2 : i < len) (hl : len ≤ 32768)
    (ct : w.cell? ⟨g, i * 4, none⟩ = some (.bool true)) :
    Calls Tryz.prog 97 #[.pointer (some ⟨s, 0, none⟩), .int .u32 hd] w fun e w' => e = .returned (.pointer (some ⟨g, i * 4, none⟩)) ∧ w = w' := by
  subst h1
  go_enter Tryz.func97, Tryz.ntmps97
  go_wp2
  go_ret
  exact ⟨rfl, rfl⟩

theorem is_any (h : StoreAt w s y n room off L K C sl) (hd : Int) (h0 : 0 ≤ hd) (h1 : hd < 4294967296) :
    Calls Tryz.prog 31 #[.pointer (some ⟨s, 0, none⟩), .int .u32 hd] w fun e w' => e = .returned (.bool (decide (hd < (L.length : Int) + 2))) ∧ w = w' := by
  have hlen := h.len
  have hrm := h.rooms.2
  obtain ⟨a, cap, hnv, hcap⟩ := h.nodes.shape
  have c2 := h.head.cell 2 (v := y.nv) rfl
  by_cases h2 : hd < 2
  · have e : decide (hd < (L.length : Int) + 2) = true := by simp; omega
    rw [e]
    clear h c2 hnv e
    go_enter Tryz.func31, Tryz.ntmps31
    go_wp2_with fail
    go_ret
    exact ⟨rfl, rfl⟩
  · by_cases h3 : hd < (L.length : Int) + 2
    · obtain ⟨i, rfl⟩ : ∃ i : Nat, hd = (i : Int) + 2 := ⟨(hd - 2).toNat, by omega⟩
      have hi : i < L.length := by omega
      obtain ⟨g, cap', hv, hc', k0, -, -, -⟩ := h.nodes.node (List.getElem?_eq_getElem hi)
      rw [hv] at c2
      have e : decide ((i : Int) + 2 < (L.length : Int) + 2) = true := by simp; omega
      rw [e]
      clear h hnv hv e h0 h1 h2 h3
      go_enter Tryz.func31, Tryz.ntmps31
      go_wp2_with fail
      refine (nat_in s g L.length cap' i _ _ c2 rfl hi (by omega) k0).mono ?_
      rintro e w' ⟨rfl, rfl⟩
      go_wp2
      go_ret
      exact ⟨rfl, rfl⟩
    · rw [hnv] at c2
      have e : decide (hd < (L.length : Int) + 2) = false := by simp; omega
      rw [e]
      clear h hnv e
      go_enter Tryz.func31, Tryz.ntmps31
      go_wp2_with fail
      refine (nat_far s L.length cap a _ _ c2 (by omega) h1 (by omega)).mono ?_
      rintro e w' ⟨rfl, rfl⟩
      go_wp2
      go_ret
      exact ⟨ret_bool (by simp; omega), rfl⟩

theorem isNd_is (h : StoreAt w s y n room off L K C sl) {k : Nat} (hk : Bdd.IsNd (Bdd.tab L) k) :
    Calls Tryz.prog 31 #[.pointer (some ⟨s, 0, none⟩), .int .u32 (k : Int)] w fun e w' => e = .returned (.bool true) ∧ w = w' := by
  have hl := Bdd.isNd_tab.1 hk
  have h1 := h.len
  have h2 := h.rooms.2
  refine (is_any h (k : Int) (by omega) (by omega)).mono ?_
  rintro e w' ⟨rfl, rfl⟩
  exact ⟨ret_bool (by simp; omega), rfl⟩

theorem level_any (h : StoreAt w s y n room off L K C sl) {k : Nat} (hk : Bdd.IsNd (Bdd.tab L) k) :
    Calls Tryz.prog 126 #[.pointer (some ⟨s, 0, none⟩), .int .u32 (k : Int)] w fun e w' => e = .returned (.int .i64 (Bdd.lev n (Bdd.tab L) k : Nat)) ∧ w = w' := by
  have hlen := h.len
  have hrm := h.rooms.2
  have c2 := h.head.cell 2 (v := y.nv) rfl
  rcases Nat.lt_or_ge k 2 with k2 | k2
  · rw [Bdd.lev_const k2]
    go_enter Tryz.func126, Tryz.ntmps126
    go_wp2_with fail
    refine (vars_any h).mono ?_
    rintro e w' ⟨rfl, rfl⟩
    go_wp2
    go_ret
    exact ⟨rfl, rfl⟩
  · obtain ⟨d, hd⟩ := hk.node k2
    have ⟨_, hd'⟩ := Bdd.tab_some hd
    rw [Bdd.lev_node k2 hd]
    obtain ⟨g, cap', hv, hc', k0, k1, -, -⟩ := h.nodes.node hd'
    have hi := (List.getElem?_eq_some_iff.1 hd').1
    obtain ⟨i, rfl⟩ : ∃ i, k = i + 2 := ⟨k - 2, by omega⟩
    simp only [Nat.add_sub_cancel] at hi k0 k1
    rw [hv] at c2
    clear h hv hd hd' hk
    go_enter Tryz.func126, Tryz.ntmps126
    go_wp2_with fail
    refine (nat_in s g L.length cap' i _ _ c2 (by omega) hi (by omega) k0).mono ?_
    rintro e w' ⟨rfl, rfl⟩
    go_wp2
    go_ret
    exact ⟨rfl, rfl⟩

theorem low_any (h : StoreAt w s y n room off L K C sl) {k : Nat} {d : Bdd.Nd} (hd : Bdd.tab L k = some d) :
    Calls Tryz.prog 127 #[.pointer (some ⟨s, 0, none⟩), .int .u32 (k : Int)] w fun e w' => e = .returned (.int .u32 (d.lo : Int)) ∧ w = w' := by
  have hlen := h.len
  have hrm := h.rooms.2
  have c2 := h.head.cell 2 (v := y.nv) rfl
  have ⟨k2, hd'⟩ := Bdd.tab_some hd
  obtain ⟨g, cap', hv, hc', k0, -, k1, -⟩ := h.nodes.node hd'
  have hi := (List.getElem?_eq_some_iff.1 hd').1
  obtain ⟨i, rfl⟩ : ∃ i, k = i + 2 := ⟨k - 2, by omega⟩
  simp only [Nat.add_sub_cancel] at hi k0 k1
  rw [hv] at c2
  clear h hv hd hd'
  go_enter Tryz.func127, Tryz.ntmps127
  go_wp2_with fail
  refine (nat_in s g L.length cap' i _ _ c2 (by omega) hi (by omega) k0).mono ?_
  rintro e w' ⟨rfl, rfl⟩
  go_wp2
  go_ret
  exact ⟨rfl, rfl⟩

theorem high_any (h : StoreAt w s y n room off L K C sl) {k : Nat} {d : Bdd.Nd} (hd : Bdd.tab L k = some d) :
    Calls Tryz.prog 128 #[.pointer (some ⟨s, 0, none⟩), .int .u32 (k : Int)] w fun e w' => e = .returned (.int .u32 (d.hi : Int)) ∧ w = w' := by
  have hlen := h.len
  have hrm := h.rooms.2
  have c2 := h.head.cell 2 (v := y.nv) rfl
  have ⟨k2, hd'⟩ := Bdd.tab_some hd
  obtain ⟨g, cap', hv, hc', k0, -, -, k1⟩ := h.nodes.node hd'
  have hi := (List.getElem?_eq_some_iff.1 hd').1
  obtain ⟨i, rfl⟩ : ∃ i, k = i + 2 := ⟨k - 2, by omega⟩
  simp only [Nat.add_sub_cancel] at hi k0 k1
  rw [hv] at c2
  clear h hv hd hd'
  go_enter Tryz.func128, Tryz.ntmps128
  go_wp2_with fail
  refine (nat_in s g L.length cap' i _ _ c2 (by omega) hi (by omega) k0).mono ?_
  rintro e w' ⟨rfl, rfl⟩
  go_wp2
  go_ret
  exact ⟨rfl, rfl⟩

theorem slen_any (h : StoreAt w s y n room off L K C sl) :
    Calls Tryz.prog 84 #[.pointer (some ⟨s, 0, none⟩)] w fun e w' => e = .returned (.int .i64 (L.length : Int)) ∧ ∃ m, w' = w.drewN m := by
  have hlen := h.len
  have hrm := h.rooms.2
  obtain ⟨a, cap, hnv, hcap⟩ := h.nodes.shape
  have c2 := h.head.cell 2 (v := y.nv) rfl
  have c3 := h.head.cell 3 rfl
  rw [hnv] at c2
  have hw : IntKind.i64.wrap ((L.length : Int) - 0) = (L.length : Int) := by rw [Int.sub_zero]; exact IntWalk.i64_in _ (by omega)
  have hw' : IntKind.i64.wrap (L.length : Int) = (L.length : Int) := IntWalk.i64_in _ (by omega)
  clear h hnv
  go_enter Tryz.func84, Tryz.ntmps84
  go_wp2_with fail
  go_quiet (fail)
  go_wp2
  go_ret
  exact ⟨rfl, _, rfl⟩

theorem room_any (h : StoreAt w s y n room off L K C sl) :
    Calls Tryz.prog 85 #[.pointer (some ⟨s, 0, none⟩)] w fun e w' => e = .returned (.int .i64 (room : Int)) ∧ w = w' := by
  have c0 := h.head.cell 0 rfl
  clear h
  go_enter Tryz.func85, Tryz.ntmps85
  go_wp2
  go_ret
  exact ⟨rfl, rfl⟩

theorem key_any (l a b : Nat) (w : World) (hl : l < 256) (ha : a < 268435456) (hb : b < 268435456) :
    Calls Tryz.prog 173 #[.int .i64 (l : Int), .int .u32 (a : Int), .int .u32 (b : Int)] w fun e w' => e = .returned (.int .u64 (Bdd.keyN ⟨l, a, b⟩ : Nat)) ∧ w = w' := by
  go_enter Tryz.func173, Tryz.ntmps173
  go_wp2_with fail
  refine (node_any l a b _ hl ha hb).mono ?_
  rintro e w' ⟨rfl, rfl⟩
  go_wp2
  go_ret
  exact ⟨rfl, rfl⟩

end
end Go.Proofs.YtiojnjihbidbiaaGreat
/- A store's table asked, walked: 'has' tells the node of a key, or that there is none. -/
namespace Go.Proofs.YtiojnjihbidbiaaGreat
open Go.RowKit
attribute [local go_sem ↓] Go.wp_at_zero Go.wp_at_succ
set_option linter.unusedVariables false

theorem tat_at (t m cb : Nat) (K : List Nat) (s : Int) (i : Nat) (w : World) (h : TableAt w t m cb K) (h0 : s = (i : Int)) (h1 : i < K.length) :
    Calls Tryz.prog 217 #[.pointer (some ⟨t, 0, none⟩), .int .i64 s] w fun e w' => e = .returned (.int .u64 (K0 K i : Nat)) ∧ TableAt w' t m cb K ∧ Fr [m] w w' := by
  subst h0
  exact tat_any t m cb K i w h (by omega) (by omega)

theorem nodup_get {l : List Nat} (h : l.Nodup) {i j a b : Nat} (ha : l[i]? = some a) (hb : l[j]? = some b) (hij : i ≠ j) : a ≠ b := by
  intro e
  subst e
  exact hij ((List.getElem?_inj (List.getElem?_eq_some_iff.1 ha).1 h).1 (ha.trans hb.symm))

section
variable {w w' : World} {s : Nat} {y : Lay} {n room : Nat} {off : Bool} {L : List Bdd.Nd} {K C : List Nat} {sl : Nat → Option Nat}

/-- The table's own blocks have been touched; it is what it was. -/
theorem StoreAt.touched {O : List Nat} (h : StoreAt w s y n room off L K C sl) (f : Fr O w w') (hO : ∀ k ∈ O, k = y.tm ∨ k = y.tc) (hT : TableAt w' y.tab y.tm y.tc K) : StoreAt w' s y n room off L K C sl := by
  have key : ∀ k, k ≠ y.tm → k ≠ y.tc → k ∉ O := fun k h1 h2 hk => (hO k hk).elim h1 h2
  have K1 : ∀ i k, (y.blocks s)[i]? = some k → i ≠ 3 → i ≠ 4 → k ∉ O := fun i k hi h3 h4 => key k (nodup_get h.apart hi (j := 3) rfl h3) (nodup_get h.apart hi (j := 4) rfl h4)
  have own : ∀ k, y.nv.ownBlock = some k → k ∉ O := fun k hk => K1 9 k (by simp [Lay.blocks, hk]) (by omega) (by omega)
  exact ⟨h.head.fr f (K1 0 _ rfl (by omega) (by omega)), h.ord.fr f (K1 1 _ rfl (by omega) (by omega)), h.nodes.fr f own, hT,
    h.slots.fr f (K1 5 _ rfl (by omega) (by omega)), h.cache.fr f (K1 6 _ rfl (by omega) (by omega)) (K1 7 _ rfl (by omega) (by omega)) (K1 8 _ rfl (by omega) (by omega)), h.apart,
    fun k hk => by have := h.inside k hk; have := f.size; omega, h.vars, h.rooms, h.len, h.half, h.big, h.wf, h.tinv, h.cinv, h.vers⟩

theorem zero_u32 (w : World) : (zeroValue 28).run Tryz.prog w = .ok (.int .u32 0) w := by kernel_rfl

theorem StoreAt.look (h : StoreAt w s y n room off L K C sl) {slot i : Nat} (hs : sl slot = some i) {x : Int} (hx : x = (slot : Int)) :
    (Instr.lookup 131 (.map (some y.slo)) (.int .i64 x) false).run Tryz.prog w = .ok (.int .u32 (i : Int)) w := by
  have := run_lookup_plain (P := Tryz.prog) Tryz.underlying131 (by kernel_rfl) h.slots (zero_u32 w) x
  rw [this, hx]
  simp [slf, hs]

/-- Before round j of 'has': no slot so far is empty or holds the key. -/
def HasRel (s : Nat) (y : Lay) (n room : Nat) (off : Bool) (L : List Bdd.Nd) (K C : List Nat) (sl : Nat → Option Nat) (key : Nat) (w0 : World) (j : Nat) (wr : World) : Prop :=
  StoreAt wr s y n room off L K C sl ∧ Fr [y.tm] w0 wr ∧ ∀ i, i < j → K0 K ((homeF K.length key + i) % K.length) ≠ 0 ∧ K0 K ((homeF K.length key + i) % K.length) ≠ key

theorem HasRel.next {s : Nat} {y : Lay} {n room : Nat} {off : Bool} {L : List Bdd.Nd} {K C : List Nat} {sl : Nat → Option Nat} {key j : Nat} {w0 wr w2 : World} (h : HasRel s y n room off L K C sl key w0 j wr)
    (hT : TableAt w2 y.tab y.tm y.tc K) (hF : Fr [y.tm] wr w2) (h0 : K0 K ((homeF K.length key + j) % K.length) ≠ 0) (h1 : K0 K ((homeF K.length key + j) % K.length) ≠ key) : HasRel s y n room off L K C sl key w0 (j + 1) w2 :=
  ⟨h.1.touched hF (by simp) hT, h.2.1.then hF, fun i hi => by
    by_cases e : i = j
    · subst e; exact ⟨h0, h1⟩
    · exact h.2.2 i (by omega)⟩

/-- What 'has' answers: the handle of the node of this key; or there is none. -/
def HasPost (s : Nat) (y : Lay) (n room : Nat) (off : Bool) (L : List Bdd.Nd) (K C : List Nat) (sl : Nat → Option Nat) (key : Nat) (w0 : World) (e : Ending) (w' : World) : Prop :=
  StoreAt w' s y n room off L K C sl ∧ Fr [y.tm] w0 w' ∧
  ((∃ i d, L[i]? = some d ∧ Bdd.keyN d = key ∧ e = .returned (.tuple #[.int .u32 ((i + 2 : Nat) : Int), .bool true])) ∨
   ((∀ (i : Nat) (d : Bdd.Nd), L[i]? = some d → Bdd.keyN d ≠ key) ∧ e = .returned (.tuple #[.int .u32 0, .bool false])))

set_option maxHeartbeats 1000000 in
theorem has_any (h : StoreAt w s y n room off L K C sl) (key : Nat) (hk : key ≠ 0) :
    Calls Tryz.prog 174 #[.pointer (some ⟨s, 0, none⟩), .int .u64 (key : Int)] w (HasPost s y n room off L K C sl key w) := by
  have hS0 : 1 ≤ K.length := h.table.2.2.2.2.1
  have hbig := h.big
  have c4 := h.head.cell 4 rfl
  have hT := h.table
  have hst : HasRel s y n room off L K C sl key w 0 w := ⟨h, Fr.refl _ _, fun i hi => by omega⟩
  have hhl := homeF_lt (show 0 < K.length by omega) key
  have HT := Lib.hid h.tinv
  clear h
  go_enter Tryz.func174, Tryz.ntmps174
  go_wp2_with fail
  refine (slots_any _ _ _ _ _ hT).mono ?_
  rintro e w1 ⟨rfl, rfl⟩
  go_wp2_with fail
  clear c4 hT
  go_loopg [15] K.length (fun k i wr => ∃ j : Nat, j ≤ K.length ∧ k = K.length - j ∧ i = .int .i64 (j : Int) ∧ HasRel s y n room off L K C sl key w j wr)
  case atStart => exact ⟨0, by omega, by omega, rfl, hst⟩
  case round =>
    obtain ⟨j, hj, hgk, rfl, hr⟩ := hrel
    have c4 := hr.1.head.cell 4 rfl
    have c5 := hr.1.head.cell 5 rfl
    have hT := hr.1.table
    by_cases hlt : j < K.length
    · have hsl : (homeF K.length key + j) % K.length < K.length := Nat.mod_lt _ (by omega)
      have hz : ¬ (K.length : Int) = 0 := by omega
      by_cases e1 : K0 K ((homeF K.length key + j) % K.length) = key
      · have t1 : ((K0 K ((homeF K.length key + j) % K.length) : Int) == (key : Int)) = true := by rw [e1]; simp
        obtain ⟨i, d, hi, hd, hkd, hsi⟩ := HT.out.found hsl hk e1
        have E1 := Lib.hid e1
        have HKD := Lib.hid hkd
        have HSI := Lib.hid hsi
        have HD := Lib.hid hd
        clear e1 hkd hsi hd
        go_wp2_with fail
        refine (home_any key _ _ (by omega) (by omega)).mono ?_
        rintro e w2 ⟨rfl, rfl⟩
        go_wp2_with fail
        refine (tat_at _ _ _ K _ ((homeF K.length key + j) % K.length) _ hT (by simp) hsl).mono ?_
        rintro e w2 ⟨rfl, hT2, hF2⟩
        have hS2 := hr.1.touched hF2 (by simp) hT2
        have d5 := hS2.head.cell 5 rfl
        have hlk := hS2.look HSI.out (x := (((homeF K.length key : Nat) : Int) + (j : Int)) % (K.length : Int)) (by simp)
        have hfin : HasPost s y n room off L K C sl key w (.returned (.tuple #[.int .u32 ((i + 2 : Nat) : Int), .bool true])) w2 :=
          ⟨hS2, hr.2.1.then hF2, .inl ⟨i, d, HD.out, HKD.out.symm, rfl⟩⟩
        clear hS2 hr
        go_wp2
        go_ret2
        exact hfin
      · by_cases e2 : K0 K ((homeF K.length key + j) % K.length) = 0
        · have t1 := ne_test e1
          have t2 : ((K0 K ((homeF K.length key + j) % K.length) : Int) == 0) = true := by rw [e2]; simp
          have hab := HT.out.absent hk e2 (fun i hi => (hr.2.2 i hi).2)
          have HAB := Lib.hid hab
          clear e2 hab
          go_wp2_with fail
          refine (home_any key _ _ (by omega) (by omega)).mono ?_
          rintro e w2 ⟨rfl, rfl⟩
          go_wp2_with fail
          refine (tat_at _ _ _ K _ ((homeF K.length key + j) % K.length) _ hT (by simp) hsl).mono ?_
          rintro e w2 ⟨rfl, hT2, hF2⟩
          have hfin : HasPost s y n room off L K C sl key w (.returned (.tuple #[.int .u32 0, .bool false])) w2 :=
            ⟨hr.1.touched hF2 (by simp) hT2, hr.2.1.then hF2, .inr ⟨fun i d hi => HAB.out i d (List.getElem?_eq_some_iff.1 hi).1 hi, rfl⟩⟩
          clear hr
          go_wp2
          go_ret2
          exact hfin
        · have t1 := ne_test e1
          have t2 := ne_test0 e2
          go_wp2_with fail
          refine (home_any key _ _ (by omega) (by omega)).mono ?_
          rintro e w2 ⟨rfl, rfl⟩
          go_wp2_with fail
          refine (tat_at _ _ _ K _ ((homeF K.length key + j) % K.length) _ hT (by simp) hsl).mono ?_
          rintro e w2 ⟨rfl, hT2, hF2⟩
          go_wp2
          go_roundg (K.length - (j + 1))
          case measure => omega
          case rel => exact ⟨j + 1, by omega, rfl, by go_num, hr.next hT2 hF2 e2 e1⟩
    · have hfin : HasPost s y n room off L K C sl key w (.returned (.tuple #[.int .u32 0, .bool false])) wr :=
        ⟨hr.1, hr.2.1, .inr ⟨fun i d hi => HT.out.absent_all (fun i hi => (hr.2.2 i (by omega)).2) i d (List.getElem?_eq_some_iff.1 hi).1 hi, rfl⟩⟩
      clear hr
      go_wp2
      go_ret2
      exact hfin
end
end Go.Proofs.YtiojnjihbidbiaaGreat
/- A node laid into a store's table, walked. -/
namespace Go.Proofs.YtiojnjihbidbiaaGreat
open Go.RowKit
attribute [local go_sem ↓] Go.wp_at_zero Go.wp_at_succ
set_option linter.unusedVariables false

theorem slf_set (sl : Nat → Option Nat) (s h : Nat) : (fun y : Int => if y = (s : Int) then some (Value.int .u32 (h : Int)) else slf sl y) = slf (fun t => if t = s then some h else sl t) := by
  funext y
  unfold slf
  by_cases e : y = (s : Int)
  · subst e; simp
  · rw [if_neg e]
    by_cases h0 : 0 ≤ y
    · rw [if_pos h0, if_pos h0]; simp only []; rw [if_neg (by omega)]
    · rw [if_neg h0, if_neg h0]

theorem keyN_ne {d : Bdd.Nd} (h : d.lo ≠ d.hi) : Bdd.keyN d ≠ 0 := by unfold Bdd.keyN; omega

theorem finds_slot (s t m cb : Nat) (K : List Nat) (key j slot : Nat) (w : World) (hs : slot = (homeF K.length key + j) % K.length) (c4 : w.cell? ⟨s, 4, none⟩ = some (.pointer (some ⟨t, 0, none⟩))) (hT : TableAt w t m cb K) (hk : key ≠ 0)
    (hj : j < K.length) (hz : K0 K ((homeF K.length key + j) % K.length) = 0) (hp : ∀ i, i < j → K0 K ((homeF K.length key + i) % K.length) ≠ 0 ∧ K0 K ((homeF K.length key + i) % K.length) ≠ key) :
    Calls Tryz.prog 208 #[.pointer (some ⟨s, 0, none⟩), .int .u64 (key : Int)] w fun e w' => e = .returned (.tuple #[.int .i64 (slot : Int), .bool true]) ∧
      TableAt w' t m cb (K.set slot key) ∧ Fr [m, cb] w w' := by
  subst hs
  exact finds_new s t m cb K key j w c4 hT hk hj hz hp

set_option maxHeartbeats 1000000 in
theorem lays_any (s tab tm tc slo m : Nat) (K : List Nat) (sl : Nat → Option Nat) (L : List Bdd.Nd) (d : Bdd.Nd) (w : World) (c4 : w.cell? ⟨s, 4, none⟩ = some (.pointer (some ⟨tab, 0, none⟩))) (c5 : w.cell? ⟨s, 5, none⟩ = some (.map (some slo)))
    (hT : TableAt w tab tm tc K) (hM : MapAt w slo .i64 (slf sl)) (ht : Bdd.TabInv (homeF K.length) K sl L m) (hd : L[m]? = some d) (hk : ∀ (i : Nat) (x : Bdd.Nd), L[i]? = some x → Bdd.keyN x ≠ 0)
    (hnew : ∀ (i : Nat) (x : Bdd.Nd), i < m → L[i]? = some x → Bdd.keyN x ≠ Bdd.keyN d) (hm : m < K.length) (hl : d.lv < 256) (hlo : d.lo < 65540) (hhi : d.hi < 65540)
    (ne1 : s ≠ tm ∧ s ≠ tc) (ne2 : slo ≠ tm ∧ slo ≠ tc ∧ slo ≠ tab) :
    Calls Tryz.prog 161 #[.pointer (some ⟨s, 0, none⟩), .int .u32 ((m : Int) + 2), .agg #[.bool true, .int .i64 (d.lv : Int), .int .u32 (d.lo : Int), .int .u32 (d.hi : Int)]] w fun e w' =>
      e = .returned (.tuple #[]) ∧ ∃ K' sl', K'.length = K.length ∧ TableAt w' tab tm tc K' ∧ MapAt w' slo .i64 (slf sl') ∧ Bdd.TabInv (homeF K'.length) K' sl' L (m + 1) ∧ Fr [tm, tc, slo] w w' := by
  obtain ⟨l, lo, hi⟩ := d
  have hdk := hk m _ hd
  have hcount : K.countP (fun x => x != 0) < K.length := by rw [ht.count]; exact hm
  obtain ⟨j, hj, hz, hp⟩ := Bdd.first_zero (homeF_lt (show 0 < K.length by omega) (Bdd.keyN ⟨l, lo, hi⟩)) hcount
  have hp2 : ∀ i, i < j → K0 K ((homeF K.length (Bdd.keyN ⟨l, lo, hi⟩) + i) % K.length) ≠ 0 ∧ K0 K ((homeF K.length (Bdd.keyN ⟨l, lo, hi⟩) + i) % K.length) ≠ Bdd.keyN ⟨l, lo, hi⟩ := fun i hi' => by
    refine ⟨hp i hi', fun e => ?_⟩
    obtain ⟨i', x, hi1, hx, hkx, _⟩ := ht.of _ (Nat.mod_lt _ (by omega)) (hp i hi')
    exact hnew i' x hi1 hx (hkx.symm.trans e)
  have hins := ht.insert hd hk hj hz hp
  obtain ⟨slot, hslot⟩ : ∃ slot, slot = (homeF K.length (Bdd.keyN ⟨l, lo, hi⟩) + j) % K.length := ⟨_, rfl⟩
  rw [← hslot] at hins
  have HS := Lib.hid hslot
  clear hslot
  have Hz := Lib.hid hz
  have Hp := Lib.hid hp2
  have Hins := Lib.hid hins
  clear hz hp hp2 hins hcount hnew hk ht hd
  -- the node lies in a variable of its own first
  have F0 : Fr [] w (w.alloc (.cells #[.bool true, .int .i64 (l : Int), .int .u32 (lo : Int), .int .u32 (hi : Int)] 220)) := (Fr.refl _ _).alloc _
  have hT0 := hT.fr F0 (by simp) (by simp) (by simp)
  have hM0 := hM.fr F0 (by simp)
  have d4 := F0.cell c4 (by simp)
  have d5 := F0.cell c5 (by simp)
  have hlt4 := lt_of_cell c4
  go_enter Tryz.func161, Tryz.ntmps161
  go_wp2_with fail
  refine (key_any l lo hi _ hl (by omega) (by omega)).mono ?_
  rintro e w1 ⟨rfl, rfl⟩
  go_wp2_with fail
  refine (finds_slot s tab tm tc K _ j slot _ HS.out d4 hT0 hdk hj Hz.out Hp.out).mono ?_
  rintro e w1 ⟨rfl, hT1, hF1⟩
  have hM1 := hM0.fr hF1 (by simp; omega)
  have e5 := hF1.cell d5 (by simp; omega)
  obtain ⟨w2, hrun, hM2, hF2⟩ := run_mapUpdate_int (P := Tryz.prog) Tryz.underlying131 (by kernel_rfl) hM1 (slot : Int) (.int .u32 ((m : Int) + 2))
  have hT2 := hT1.fr hF2 (by simp; omega) (by simp; omega) (by simp; omega)
  have hfin : ∃ K' sl', K'.length = K.length ∧ TableAt w2 tab tm tc K' ∧ MapAt w2 slo .i64 (slf sl') ∧ Bdd.TabInv (homeF K'.length) K' sl' L (m + 1) ∧ Fr [tm, tc, slo] w w2 := by
    refine ⟨_, (fun t => if t = slot then some (m + 2) else sl t), List.length_set, hT2, ?_, ?_, ((F0.of _).trans (hF1.mono (O' := [tm, tc, slo]) (by simp)) (by simp)).trans (hF2.mono (O' := [tm, tc, slo]) (by simp)) (by simp)⟩
    · rw [show ((m : Int) + 2) = ((m + 2 : Nat) : Int) from rfl, slf_set] at hM2; exact hM2
    · rw [List.length_set]; exact Hins.out
  clear hT1 hT2 hM1 hM2 hM0 hT0 hT hM
  go_wp2
  go_end0
  exact ⟨rfl, hfin⟩

end Go.Proofs.YtiojnjihbidbiaaGreat
/- A free handle: the nodes' slice grows by one; walked. -/
namespace Go.Proofs.YtiojnjihbidbiaaGreat
open Go.RowKit
attribute [local go_sem ↓] Go.wp_at_zero Go.wp_at_succ
set_option linter.unusedVariables false

theorem Tryz.info_node : (Tryz.prog.info? 220).map (fun i => (i.zero, i.size, i.bytes)) = some (some (.agg #[.bool false, .int .i64 0, .int .u32 0, .int .u32 0]), 4, 24) := by kernel_rfl

/-- An absent node's cells. -/
def absent : List Value := [.bool false, .int .i64 0, .int .u32 0, .int .u32 0]

set_option maxHeartbeats 1000000 in
theorem handle_any (s len : Nat) (xs : List Value) (v0 v1 nv v4 v5 v6 v7 : Value) (w : World) (h : Blk w s #[v0, v1, nv, .slice none 0 0, v4, v5, v6, v7] 134) (hown : w.ownsRow 0 220 4 nv len xs) (hl : len ≤ 32768)
    (hs : ∀ k, nv.ownBlock = some k → s ≠ k) :
    Calls Tryz.prog 176 #[.pointer (some ⟨s, 0, none⟩)] w fun e w' => e = .returned (.int .u32 ((len : Int) + 2)) ∧ ∃ g cap,
      Blk w' s #[v0, v1, .slice (some ⟨g, 0, none⟩) (len + 1) cap, .slice none 0 0, v4, v5, v6, v7] 134 ∧ w'.ownsRow 0 220 4 (.slice (some ⟨g, 0, none⟩) (len + 1) cap) (len + 1) (xs ++ absent) ∧
      Fr (s :: nv.ownBlock.toList) w w' ∧ (nv.ownBlock = some g ∨ w.heap.size ≤ g) ∧ g < w'.heap.size := by
  obtain ⟨i0, hi, hz0, hz1, hz2⟩ := info_parts Tryz.info_node
  have c2 := h.cell 2 (v := nv) rfl
  have c3 := h.cell 3 rfl
  have hslt := h.lt
  have hA := Blk.new w #[.bool false, .int .i64 0, .int .u32 0, .int .u32 0] 220
  go_enter Tryz.func176, Tryz.ntmps176
  go_wp2_with (at_builtin; refine wpList_append_lies _ rfl _ _ _ rfl 0 220 i0 (.agg #[.bool false, .int .i64 0, .int .u32 0, .int .u32 0]) 4 24 Tryz.underlying129 hi hz0 hz1 hz2 rfl (by omega) nv len xs rfl (hown.alloc _) ⟨w.heap.size, 0, none⟩ 1 1 absent rfl rfl ?hnews ?h1 (by omega) ?h63 (by omega) (Nat.zero_le _) (w.heap.size + 1) (by simp) ?_)
  case hnews =>
    intro j u hj
    rw [Addr.add_lit, Nat.zero_add]
    exact hA.cell j (by simpa [absent] using hj)
  case h1 =>
    intro u hu
    simp only [absent, List.mem_cons, List.not_mem_nil, or_false] at hu
    rcases hu with rfl | rfl | rfl | rfl <;> rfl
  case h63 => unfold maxLen; omega
  · intro g cap w1 hown1 hgrow hat hglt
    have F1 : Fr nv.ownBlock.toList w w1 := Fr.grown ((Fr.refl _ w).alloc _) hgrow (fun k hk => .inl (by simp [hk]))
    have hs1 : s ∉ nv.ownBlock.toList := by
      intro hm
      simp only [Option.mem_toList] at hm
      exact hs s hm rfl
    have h1 := h.fr F1 hs1
    have d2 := h1.cell 2 (v := nv) rfl
    have f2 := h1.free 2
    have h2 := h1.set 2 (.slice (some ⟨g, 0, none⟩) (len + 1) cap)
    have e2 := h2.cell 2 (v := .slice (some ⟨g, 0, none⟩) (len + 1) cap) rfl
    have F2 : Fr (s :: nv.ownBlock.toList) w (w1.setCell ⟨s, 2, none⟩ (.slice (some ⟨g, 0, none⟩) (len + 1) cap)) :=
      (F1.mono (fun x hx => .inl (List.mem_cons_of_mem _ hx))).setCell _ (.inl (by simp))
    have hgs : g ≠ s := by
      rcases hat with h' | h'
      · exact fun e => hs g h' e.symm
      · omega
    have hown2 : (w1.setCell ⟨s, 2, none⟩ (.slice (some ⟨g, 0, none⟩) (len + 1) cap)).ownsRow 0 220 4 (.slice (some ⟨g, 0, none⟩) (len + 1) cap) (len + 1) (xs ++ absent) := by
      obtain ⟨r1, r2⟩ := hown1
      refine ⟨r1, ?_⟩
      rcases r2 with r2 | ⟨g', cap', cur, e, hb0, hg, r⟩
      · exact absurd r2.2 (by omega)
      · refine .inr ⟨g', cap', cur, e, hb0, ?_, r⟩
        have : g' = g := by simp at e; exact e.1.symm
        subst this
        rw [Below.heap_setCell _ _ _ _ hgs]; exact hg
    have hgf : nv.ownBlock = some g ∨ w.heap.size ≤ g := hat.imp id (fun e => by omega)
    have hglt2 : g < (w1.setCell ⟨s, 2, none⟩ (.slice (some ⟨g, 0, none⟩) (len + 1) cap)).heap.size := by simpa [World.setCell] using hglt
    clear hown1 hgrow hown h1 hA h
    go_wp2
    go_ret
    exact ⟨rfl, g, cap, h2, hown2, F2, hgf, hglt2⟩

end Go.Proofs.YtiojnjihbidbiaaGreat
/- A store's table made anew with all its nodes, walked. -/
namespace Go.Proofs.YtiojnjihbidbiaaGreat
open Go.RowKit
attribute [local go_sem ↓] Go.wp_at_zero Go.wp_at_succ
set_option linter.unusedVariables false

theorem mlen_len (m cb S : Nat) (K : List Nat) (w : World) (h : MemAt w m cb K) (hS : K.length = S) :
    Calls Tryz.prog 159 #[.pointer (some ⟨m, 0, none⟩)] w fun e w' => e = .returned (.int .i64 (S : Int)) ∧ w = w' := by
  subst hS
  exact mlen_any m cb K w h

theorem utnew_any (m cb S : Nat) (K : List Nat) (w : World) (h : MemAt w m cb K) (hK : K.length = S) (hS : 1 ≤ S) (hS2 : S ≤ 262144) :
    Calls Tryz.prog 160 #[.pointer (some ⟨m, 0, none⟩), .int .i64 0, .int .i64 (S : Int)] w fun e w' => ∃ t, e = .returned (.tuple #[.pointer (some ⟨t, 0, none⟩), .int .i64 0]) ∧ TableAt w' t m cb K ∧ Fr [] w w' ∧ w.heap.size ≤ t := by
  have hlt := h.lt
  have hh := h
  have HK := Lib.hid hK
  clear hK
  go_enter Tryz.func160, Tryz.ntmps160
  go_wp2_with fail
  refine (mlen_len m cb S K _ h HK.out).mono ?_
  rintro e w1 ⟨rfl, rfl⟩
  go_wp2_with fail
  refine (mlen_len m cb S K _ h HK.out).mono ?_
  rintro e w1 ⟨rfl, rfl⟩
  go_wp2
  go_ret2
  have F : ∀ o, Fr [] w (w.alloc o) := fun o => (Fr.refl _ _).alloc o
  have hl := HK.out
  refine ⟨_, rfl, ⟨?_, hh.fr (F _) (by simp) (by simp), by omega, by omega, by omega, by omega⟩, F _, Nat.le_refl _⟩
  rw [hl]
  exact Blk.new w _ _

end Go.Proofs.YtiojnjihbidbiaaGreat
/- A store's table made anew with all its nodes, walked: 'grows'. -/
namespace Go.Proofs.YtiojnjihbidbiaaGreat
open Go.RowKit
attribute [local go_sem ↓] Go.wp_at_zero Go.wp_at_succ
set_option linter.unusedVariables false

theorem run_lookup_set {w : World} {b : Nat} (h : MapAt w b .u32 (fun _ => none)) (x : Int) :
    (Instr.lookup 187 (.map (some b)) (.int .u32 x) true).run Tryz.prog w = .ok (.tuple #[.agg #[], .bool false]) w := by
  have := run_lookup_ok (P := Tryz.prog) Tryz.underlying187 (by kernel_rfl) h (z := .agg #[]) (by kernel_rfl) x
  rw [this]; rfl

/-- Between two rounds of 'grows': the first m nodes are in the new table. -/
def GrowRel (s : Nat) (cs : Array Value) (nv : Value) (L : List Bdd.Nd) (S tab tm tc slo out : Nat) (w0 : World) (m : Nat) (wr : World) : Prop :=
  ∃ K sl, K.length = S ∧ Blk wr s cs 134 ∧ NodesAt wr nv L ∧ TableAt wr tab tm tc K ∧ MapAt wr slo .i64 (slf sl) ∧ MapAt wr out .u32 (fun _ => none) ∧ Bdd.TabInv (homeF K.length) K sl L m ∧ Fr [s] w0 wr

set_option maxHeartbeats 2000000 in
theorem grows_any (s S : Nat) (v0 v1 nv v3 v4 v5 v6 v7 : Value) (n : Nat) (L : List Bdd.Nd) (w : World) (h : Blk w s #[v0, v1, nv, v3, v4, v5, v6, v7] 134) (hN : NodesAt w nv L) (hs : ∀ k, nv.ownBlock = some k → s ≠ k)
    (hS : 1 ≤ S) (hS2 : S ≤ 262144) (hLS : L.length < S) (hL : L.length ≤ 32768) (hw : Bdd.Wf n (Bdd.tab L)) (hn : n ≤ 8) :
    Calls Tryz.prog 96 #[.pointer (some ⟨s, 0, none⟩), .int .i64 (S : Int), .slice none 0 0] w fun e w' => e = .returned (.tuple #[]) ∧ ∃ tab tm tc slo K sl,
      K.length = S ∧ Blk w' s #[v0, v1, nv, v3, .pointer (some ⟨tab, 0, none⟩), .map (some slo), v6, v7] 134 ∧ NodesAt w' nv L ∧ TableAt w' tab tm tc K ∧ MapAt w' slo .i64 (slf sl) ∧ Bdd.TabInv (homeF S) K sl L L.length ∧ Fr [s] w w' ∧
      w.heap.size ≤ tab ∧ w.heap.size ≤ tm ∧ w.heap.size ≤ tc ∧ w.heap.size ≤ slo ∧ [tab, tm, tc, slo].Nodup := by
  obtain ⟨a, cap, hnv, hcap⟩ := hN.shape
  subst hnv
  have hnlt : ∀ k, (Value.slice a L.length cap).ownBlock = some k → k < w.heap.size := fun k hk => (hN.lt k hk).2
  have hmm := @run_makeMap Tryz.prog
  have hslt := h.lt
  go_enter Tryz.func96, Tryz.ntmps96
  go_wp2_with fail
  refine (mnew_any S _ hS2).mono ?_
  rintro e w1 ⟨tm, tc, rfl, hM1, hF1, htm, htc⟩
  go_wp2_with fail
  refine (utnew_any tm tc S _ _ hM1 (by simp) hS hS2).mono ?_
  rintro e w2 ⟨tab, rfl, hT2, hF2, htab⟩
  have F12 := hF1.trans hF2 (by simp)
  have h2 := h.fr F12 (by simp)
  have c4 := h2.cell 4 (v := v4) rfl
  have f4 := h2.free 4
  have h3 := h2.set 4 (.pointer (some ⟨tab, 0, none⟩))
  have h4 := h3.alloc (.map #[] 0)
  have c5 := h4.cell 5 (v := v5) rfl
  have f5 := h4.free 5
  have h5 := h4.set 5 (.map (some w2.heap.size))
  have h6 := h5.alloc (.map #[] 0)
  have c2 := h6.cell 2 (v := .slice a L.length cap) rfl
  go_wp2_with fail
  refine wp_loop_rounds 1 ?_
  rw [rounds_succ]
  go_wp2_with fail
  have hw2 := F12.size
  have FW : Fr [s] w ((((w2.setCell ⟨s, 4, none⟩ (.pointer (some ⟨tab, 0, none⟩))).alloc (.map #[] 0)).setCell ⟨s, 5, none⟩ (.map (some w2.heap.size))).alloc (.map #[] 0)) :=
    ((((F12.of [s]).setCell _ (.inl (by simp))).alloc _).setCell _ (.inl (by simp))).alloc _
  have FW2 : Fr [s] w2 ((((w2.setCell ⟨s, 4, none⟩ (.pointer (some ⟨tab, 0, none⟩))).alloc (.map #[] 0)).setCell ⟨s, 5, none⟩ (.map (some w2.heap.size))).alloc (.map #[] 0)) :=
    ((((Fr.refl [s] w2).setCell _ (.inl (by simp))).alloc _).setCell _ (.inl (by simp))).alloc _
  have hltT := hT2.lt
  have hlo : tm < w1.heap.size ∧ tc < w1.heap.size := hM1.lt
  have hmc : tm ≠ tc := by obtain ⟨_, _, _, _, e⟩ := hM1; exact e
  have hrel0 : GrowRel s #[v0, v1, .slice a L.length cap, v3, .pointer (some ⟨tab, 0, none⟩), .map (some w2.heap.size), v6, v7] (.slice a L.length cap) L S tab tm tc w2.heap.size (w2.heap.size + 1) w 0
      ((((w2.setCell ⟨s, 4, none⟩ (.pointer (some ⟨tab, 0, none⟩))).alloc (.map #[] 0)).setCell ⟨s, 5, none⟩ (.map (some w2.heap.size))).alloc (.map #[] 0)) := by
    refine ⟨List.replicate S 0, fun _ => none, by simp, h6, ?_, ?_, ?_, ?_, ?_, FW⟩
    · refine (hN.fr F12 (by simp)).fr FW2 (fun k hk => ?_)
      have := hs k hk
      simp; omega
    · exact hT2.fr FW2 (by simp; omega) (by simp; omega) (by simp; omega)
    · have m1 := MapAt.new (w2.setCell ⟨s, 4, none⟩ (.pointer (some ⟨tab, 0, none⟩))) .i64
      have e : slf (fun _ => none) = fun _ => none := by funext x; unfold slf; split <;> rfl
      rw [e]
      have FF : Fr [s] ((w2.setCell ⟨s, 4, none⟩ (.pointer (some ⟨tab, 0, none⟩))).alloc (.map #[] 0)) ((((w2.setCell ⟨s, 4, none⟩ (.pointer (some ⟨tab, 0, none⟩))).alloc (.map #[] 0)).setCell ⟨s, 5, none⟩ (.map (some w2.heap.size))).alloc (.map #[] 0)) :=
        ((Fr.refl [s] _).setCell _ (.inl (by simp))).alloc _
      have hsz : (w2.setCell ⟨s, 4, none⟩ (.pointer (some ⟨tab, 0, none⟩))).heap.size = w2.heap.size := by simp [World.setCell]
      rw [hsz] at m1
      exact m1.fr FF (by simp; omega)
    · have m1 := MapAt.new (((w2.setCell ⟨s, 4, none⟩ (.pointer (some ⟨tab, 0, none⟩))).alloc (.map #[] 0)).setCell ⟨s, 5, none⟩ (.map (some w2.heap.size))) .u32
      have hsz : (((w2.setCell ⟨s, 4, none⟩ (.pointer (some ⟨tab, 0, none⟩))).alloc (.map #[] 0)).setCell ⟨s, 5, none⟩ (.map (some w2.heap.size))).heap.size = w2.heap.size + 1 := by simp [World.setCell]
      rw [hsz] at m1
      exact m1
    · rw [List.length_replicate]; exact Bdd.TabInv.empty _ _ _ _ (fun k => homeF_lt (by omega) k)
  have hkeys : ∀ (i : Nat) (x : Bdd.Nd), L[i]? = some x → Bdd.keyN x ≠ 0 := fun i x hx => keyN_ne (hw.ne (h := i + 2) (by rw [Bdd.tab_two]; exact hx))
  have hsm : ∀ (i : Nat) (x : Bdd.Nd), L[i]? = some x → x.lv < 256 ∧ x.lo < 65540 ∧ x.hi < 65540 := fun i x hx => by
    have hx' : Bdd.tab L (i + 2) = some x := by rw [Bdd.tab_two]; exact hx
    have h1 := hw.lv hx'
    have h2 := Bdd.isNd_tab.1 (hw.lo hx')
    have h3 := Bdd.isNd_tab.1 (hw.hi hx')
    omega
  have hnw : ∀ (i m : Nat) (x d : Bdd.Nd), i < m → L[i]? = some x → L[m]? = some d → Bdd.keyN x ≠ Bdd.keyN d := fun i m x d him hx hd e => by
    have a1 := hsm i x hx
    have a2 := hsm m d hd
    have := Bdd.keyN_inj (by omega) (by omega) (by omega) (by omega) e
    subst this
    have := hw.uniq (h := i + 2) (k := m + 2) (by rw [Bdd.tab_two]; exact hx) (by rw [Bdd.tab_two]; exact hd)
    omega
  have HK := Lib.hid hkeys
  have HS := Lib.hid hsm
  have HN := Lib.hid hnw
  clear hkeys hsm hnw hw h h2 h3 h4 h5 h6 c4 f4 c5 f5 c2 FW FW2 hM1 hT2 hF1 F12 hN
  have hp1 : tab ≠ tm ∧ tab ≠ tc ∧ s ≠ tab ∧ s ≠ tm ∧ s ≠ tc := by omega
  have hp2 : s ≠ w2.heap.size ∧ w2.heap.size ≠ tm ∧ w2.heap.size ≠ tc ∧ w2.heap.size ≠ tab ∧ w.heap.size ≤ w2.heap.size ∧ w.heap.size ≤ tab := by omega
  go_loopg [44] L.length (fun k i wr => ∃ m : Nat, m ≤ L.length ∧ k = L.length - m ∧ i = .int .i64 (m : Int) ∧ GrowRel s #[v0, v1, .slice a L.length cap, v3, .pointer (some ⟨tab, 0, none⟩), .map (some w2.heap.size), v6, v7] (.slice a L.length cap) L S tab tm tc w2.heap.size (w2.heap.size + 1) w m wr)
  case atStart => exact ⟨0, by omega, by omega, rfl, hrel0⟩
  case round =>
    obtain ⟨m, hm, hgk, rfl, Kt, slt, hKt, hB, hNr, hTr, hMr, hOr, hIr, hFr⟩ := hrel
    by_cases hlt : m < L.length
    · have hd : L[m]? = some L[m] := List.getElem?_eq_getElem hlt
      obtain ⟨g, cap', hv, hc', k0, k1, k2, k3⟩ := hNr.node hd
      obtain ⟨rfl, rfl⟩ : a = some ⟨g, 0, none⟩ ∧ cap = cap' := by simpa using hv
      obtain ⟨d, hdd⟩ : ∃ d, d = L[m] := ⟨_, rfl⟩
      rw [← hdd] at hd k1 k2 k3
      clear hv hdd
      have hsd := HS.out m d hd
      have HD := Lib.hid hd
      have HKt := Lib.hid hKt
      clear hd hKt
      have hgs : g ≠ s := fun e => hs g rfl e.symm
      have hglt := hnlt g rfl
      have F1 : Fr [] wr (wr.alloc (.cells #[.bool true, .int .i64 (d.lv : Int), .int .u32 (d.lo : Int), .int .u32 (d.hi : Int)] 220)) := (Fr.refl _ _).alloc _
      have hlk := run_lookup_set (hOr.fr F1 (by simp)) ((m : Int) + 2)
      have F2 := F1.alloc (.cells #[] 210)
      have hB2 := hB.fr F2 (by simp)
      have c4 := hB2.cell 4 (v := .pointer (some ⟨tab, 0, none⟩)) rfl
      have c5 := hB2.cell 5 (v := .map (some w2.heap.size)) rfl
      have hltr := hTr.lt
      have hlts := hMr.lt
      have hlto := hOr.lt
      go_wp2_with fail
      refine (lays_any s tab tm tc w2.heap.size m Kt slt L d _ c4 c5 (hTr.fr F2 (by simp) (by simp) (by simp)) (hMr.fr F2 (by simp)) hIr HD.out HK.out (fun i x hi hx => HN.out i m x d hi hx HD.out) (by rw [HKt.out]; omega) hsd.1 hsd.2.1 hsd.2.2 (by omega) (by omega)).mono ?_
      rintro e w3 ⟨rfl, Kt', slt', hK', hT3, hM3, hI3, hF3⟩
      have F3 : Fr [tm, tc, w2.heap.size] wr w3 := (F2.of _).then hF3
      have hnxt : GrowRel s #[v0, v1, .slice (some ⟨g, 0, none⟩) L.length cap, v3, .pointer (some ⟨tab, 0, none⟩), .map (some w2.heap.size), v6, v7] (.slice (some ⟨g, 0, none⟩) L.length cap) L S tab tm tc w2.heap.size (w2.heap.size + 1) w (m + 1) w3 :=
        ⟨Kt', slt', hK'.trans HKt.out, hB.fr F3 (by simp; omega), hNr.fr F3 (fun k hk => by simp only [Value.ownBlock, Option.some.injEq] at hk; subst hk; simp; omega), hT3, hM3, hOr.fr F3 (by simp; omega), hI3, hFr.trans F3 (by simp; omega)⟩
      go_wp2
      go_roundg (L.length - (m + 1))
      case measure => omega
      case rel => exact ⟨m + 1, by omega, rfl, by go_num, hnxt⟩
    · have : m = L.length := by omega
      subst this
      have hfin : ∃ tab tm tc slo K sl, K.length = S ∧ Blk wr s #[v0, v1, .slice a L.length cap, v3, .pointer (some ⟨tab, 0, none⟩), .map (some slo), v6, v7] 134 ∧ NodesAt wr (.slice a L.length cap) L ∧ TableAt wr tab tm tc K ∧ MapAt wr slo .i64 (slf sl) ∧ Bdd.TabInv (homeF S) K sl L L.length ∧ Fr [s] w wr ∧
          w.heap.size ≤ tab ∧ w.heap.size ≤ tm ∧ w.heap.size ≤ tc ∧ w.heap.size ≤ slo ∧ [tab, tm, tc, slo].Nodup := by
        refine ⟨tab, tm, tc, w2.heap.size, Kt, slt, hKt, hB, hNr, hTr, hMr, by rw [← hKt]; exact hIr, hFr, by omega, htm, htc, by omega, ?_⟩
        simp; omega
      clear hB hNr hTr hMr hOr hIr hFr hKt
      go_wp2
      go_end0
      exact ⟨rfl, hfin⟩

end Go.Proofs.YtiojnjihbidbiaaGreat
/- A store that grows by one node: what the pieces come to, put together. -/
namespace Go.Proofs.YtiojnjihbidbiaaGreat
open Go.RowKit
set_option linter.unusedVariables false

/-- A store over the blocks B. -/
def Sto (w : World) (s : Nat) (B : List Nat) (n room : Nat) (off : Bool) (L : List Bdd.Nd) : Prop :=
  ∃ y K C sl, B = y.blocks s ∧ StoreAt w s y n room off L K C sl

/-- The store has gone on from L to L': at most c nodes more above level 5; it owns its old blocks and new ones; nothing else has turned. -/
structure Evo (s n room : Nat) (off : Bool) (B : List Nat) (L : List Bdd.Nd) (w : World) (B' : List Nat) (L' : List Bdd.Nd) (w' : World) (c : Nat) : Prop where
  sto : Sto w' s B' n room off L'
  fr : Fr B w w'
  own : ∀ k ∈ B', k ∈ B ∨ w.heap.size ≤ k
  gr : Bdd.Gr n L L' c

theorem Evo.trans {s n room c c' : Nat} {off : Bool} {B B1 B2 : List Nat} {L L1 L2 : List Bdd.Nd} {w w1 w2 : World} (h : Evo s n room off B L w B1 L1 w1 c) (k : Evo s n room off B1 L1 w1 B2 L2 w2 c') : Evo s n room off B L w B2 L2 w2 (c + c') :=
  ⟨k.sto, h.fr.trans k.fr (fun x hx => h.own x hx), fun x hx => (k.own x hx).elim (fun h1 => h.own x h1) (fun h1 => .inr (by have := h.fr.size; omega)), h.gr.trans k.gr⟩
theorem Evo.mono {s n room c c' : Nat} {off : Bool} {B B1 : List Nat} {L L1 : List Bdd.Nd} {w w1 : World} (h : Evo s n room off B L w B1 L1 w1 c) (hc : c ≤ c') : Evo s n room off B L w B1 L1 w1 c' :=
  ⟨h.sto, h.fr, h.own, h.gr.mono hc⟩
theorem Evo.refl {s n room : Nat} {off : Bool} {B : List Nat} {L : List Bdd.Nd} {w : World} (h : Sto w s B n room off L) : Evo s n room off B L w B L w 0 :=
  ⟨h, Fr.refl _ _, fun _ hk => .inl hk, by obtain ⟨y, K, C, sl, _, hs⟩ := h; exact Bdd.Gr.refl hs.wf⟩

theorem Sto.wf {w : World} {s : Nat} {B : List Nat} {n room : Nat} {off : Bool} {L : List Bdd.Nd} (h : Sto w s B n room off L) : Bdd.Wf n (Bdd.tab L) := by obtain ⟨y, K, C, sl, _, hs⟩ := h; exact hs.wf
theorem Sto.vars {w : World} {s : Nat} {B : List Nat} {n room : Nat} {off : Bool} {L : List Bdd.Nd} (h : Sto w s B n room off L) : 1 ≤ n ∧ n ≤ 8 := by obtain ⟨y, K, C, sl, _, hs⟩ := h; exact hs.vars
theorem Sto.len {w : World} {s : Nat} {B : List Nat} {n room : Nat} {off : Bool} {L : List Bdd.Nd} (h : Sto w s B n room off L) : L.length ≤ room ∧ 1 ≤ room ∧ room ≤ 32768 := by
  obtain ⟨y, K, C, sl, _, hs⟩ := h; exact ⟨hs.len, hs.rooms.1, hs.rooms.2⟩
theorem Sto.mem {w : World} {s : Nat} {B : List Nat} {n room : Nat} {off : Bool} {L : List Bdd.Nd} (h : Sto w s B n room off L) : s ∈ B ∧ ∀ k ∈ B, k < w.heap.size := by
  obtain ⟨y, K, C, sl, rfl, hs⟩ := h; exact ⟨by simp [Lay.blocks], hs.inside⟩
theorem Sto.fr {O : List Nat} {w w' : World} {s : Nat} {B : List Nat} {n room : Nat} {off : Bool} {L : List Bdd.Nd} (h : Sto w s B n room off L) (f : Fr O w w') (hO : ∀ k ∈ B, k ∉ O) : Sto w' s B n room off L := by
  obtain ⟨y, K, C, sl, rfl, hs⟩ := h; exact ⟨y, K, C, sl, rfl, hs.fr f hO⟩

theorem old_new {N a t : Nat} (h : a < N) (g : N ≤ t) : a ≠ t := by omega
theorem new_old {N a t : Nat} (h : a < N) (g : N ≤ t) : t ≠ a := by omega

section
variable {w w' : World} {s : Nat} {y : Lay} {n room : Nat} {off : Bool} {L : List Bdd.Nd} {K C : List Nat} {sl : Nat → Option Nat}

theorem StoreAt.sep (h : StoreAt w s y n room off L K C sl) (i j : Nat) {a b : Nat} (ha : (y.blocks s)[i]? = some a) (hb : (y.blocks s)[j]? = some b) (hij : i ≠ j) : a ≠ b := nodup_get h.apart ha hb hij

theorem StoreAt.ownNe (h : StoreAt w s y n room off L K C sl) {k : Nat} (hk : y.nv.ownBlock = some k) (i : Nat) (hi : i < 9) {a : Nat} (ha : (y.blocks s)[i]? = some a) : a ≠ k :=
  nodup_get h.apart ha (j := 9) (by simp [Lay.blocks, hk]) (by omega)

theorem StoreAt.memOf (i : Nat) {a : Nat} (ha : (y.blocks s)[i]? = some a) : a ∈ y.blocks s := List.mem_of_getElem? ha

/-- The table made anew, of twice as many slots. -/
theorem grow_store (h : StoreAt w s y n room off L K C sl) (hroom : L.length < room) (hfull : K.length < 2 * (L.length + 1)) :
    Calls Tryz.prog 96 #[.pointer (some ⟨s, 0, none⟩), .int .i64 (2 * (K.length : Int)), .slice none 0 0] w fun e w' => e = .returned (.tuple #[]) ∧ ∃ y' K' sl',
      StoreAt w' s y' n room off L K' C sl' ∧ K'.length = 2 * K.length ∧ y'.nv = y.nv ∧ Fr [s] w w' ∧ (∀ k ∈ y'.blocks s, k ∈ y.blocks s ∨ w.heap.size ≤ k) := by
  have hK := h.table.2.2.2.2.1
  have h1 := h.half
  have h2 := h.len
  have h3 := h.rooms.2
  rw [show (2 * (K.length : Int)) = ((2 * K.length : Nat) : Int) by omega]
  refine (grows_any s (2 * K.length) _ _ y.nv _ _ _ _ _ n L w h.head h.nodes (fun k hk => h.ownNe hk 0 (by omega) rfl) (by omega) (by omega) (by omega) (by omega) h.wf h.vars.2).mono ?_
  rintro e w' ⟨rfl, tab, tm, tc, slo, K', sl', hK', hB, hN, hT, hM, hI, hF, g1, g2, g3, g4, hnd⟩
  have hhalf : 2 * L.length ≤ K'.length := by omega
  have hbig : K'.length ≤ 131072 := by omega
  have ins := h.inside
  have lt : ∀ i a, (y.blocks s)[i]? = some a → a < w.heap.size := fun i a ha => ins a (StoreAt.memOf i ha)
  have l0 := lt 0 _ rfl
  have l1 := lt 1 _ rfl
  have l6 := lt 6 _ rfl
  have l7 := lt 7 _ rfl
  have l8 := lt 8 _ rfl
  have n01 := h.sep 0 1 rfl rfl (by omega)
  have n06 := h.sep 0 6 rfl rfl (by omega)
  have n07 := h.sep 0 7 rfl rfl (by omega)
  have n08 := h.sep 0 8 rfl rfl (by omega)
  have n16 := h.sep 1 6 rfl rfl (by omega)
  have n17 := h.sep 1 7 rfl rfl (by omega)
  have n18 := h.sep 1 8 rfl rfl (by omega)
  have n67 := h.sep 6 7 rfl rfl (by omega)
  have n68 := h.sep 6 8 rfl rfl (by omega)
  have n78 := h.sep 7 8 rfl rfl (by omega)
  simp only [List.nodup_cons, List.mem_cons, List.not_mem_nil, or_false, not_or, not_false_eq_true, List.nodup_nil, and_true] at hnd
  refine ⟨rfl, ⟨y.ord, y.nv, tab, tm, tc, slo, y.cac, y.cm, y.cc⟩, K', sl', ⟨hB, h.ord.fr hF (by simp; exact n01.symm), hN, hT, hM, h.cache.fr hF (by simp; exact n06.symm) (by simp; exact n07.symm) (by simp; exact n08.symm), ?_, ?_, h.vars, h.rooms, h.len, hhalf, hbig, h.wf, by rw [hK']; exact hI, h.cinv, h.vers⟩, hK', rfl, hF, ?_⟩
  · show ([s, y.ord, tab, tm, tc, slo, y.cac, y.cm, y.cc] ++ y.nv.ownBlock.toList).Nodup
    cases ho : y.nv.ownBlock with
    | none =>
      simp only [Option.toList_none, List.append_nil, List.nodup_cons, List.mem_cons, List.not_mem_nil, or_false, not_or, not_false_eq_true, List.nodup_nil, and_true]
      exact ⟨⟨n01, old_new l0 g1, old_new l0 g2, old_new l0 g3, old_new l0 g4, n06, n07, n08⟩, ⟨old_new l1 g1, old_new l1 g2, old_new l1 g3, old_new l1 g4, n16, n17, n18⟩, ⟨hnd.1.1, hnd.1.2.1, hnd.1.2.2, new_old l6 g1, new_old l7 g1, new_old l8 g1⟩, ⟨hnd.2.1.1, hnd.2.1.2, new_old l6 g2, new_old l7 g2, new_old l8 g2⟩, ⟨hnd.2.2, new_old l6 g3, new_old l7 g3, new_old l8 g3⟩, ⟨new_old l6 g4, new_old l7 g4, new_old l8 g4⟩, ⟨n67, n68⟩, n78⟩
    | some k =>
      have m0 := h.ownNe ho 0 (by omega) rfl
      have m1 := h.ownNe ho 1 (by omega) rfl
      have m6 := h.ownNe ho 6 (by omega) rfl
      have m7 := h.ownNe ho 7 (by omega) rfl
      have m8 := h.ownNe ho 8 (by omega) rfl
      have lk := lt 9 k (by simp [Lay.blocks, ho])
      simp only [Option.toList_some, List.cons_append, List.nil_append, List.nodup_cons, List.mem_cons, List.not_mem_nil, or_false, not_or, not_false_eq_true, List.nodup_nil, and_true]
      exact ⟨⟨n01, old_new l0 g1, old_new l0 g2, old_new l0 g3, old_new l0 g4, n06, n07, n08, m0⟩, ⟨old_new l1 g1, old_new l1 g2, old_new l1 g3, old_new l1 g4, n16, n17, n18, m1⟩, ⟨hnd.1.1, hnd.1.2.1, hnd.1.2.2, new_old l6 g1, new_old l7 g1, new_old l8 g1, new_old lk g1⟩, ⟨hnd.2.1.1, hnd.2.1.2, new_old l6 g2, new_old l7 g2, new_old l8 g2, new_old lk g2⟩, ⟨hnd.2.2, new_old l6 g3, new_old l7 g3, new_old l8 g3, new_old lk g3⟩, ⟨new_old l6 g4, new_old l7 g4, new_old l8 g4, new_old lk g4⟩, ⟨n67, n68, m6⟩, ⟨n78, m7⟩, m8⟩
  · intro k hk
    have hs := hF.size
    have ht := hT.lt
    have hm := hM.lt
    rcases List.mem_append.1 hk with hk | hk
    · simp only [List.mem_cons, List.not_mem_nil, or_false] at hk
      rcases hk with rfl | rfl | rfl | rfl | rfl | rfl | rfl | rfl | rfl
      · exact Nat.lt_of_lt_of_le l0 hs
      · exact Nat.lt_of_lt_of_le l1 hs
      · exact ht.1
      · exact ht.2.1
      · exact ht.2.2
      · exact hm
      · exact Nat.lt_of_lt_of_le l6 hs
      · exact Nat.lt_of_lt_of_le l7 hs
      · exact Nat.lt_of_lt_of_le l8 hs
    · exact Nat.lt_of_lt_of_le (ins k (List.mem_append_right _ hk)) hs
  · intro k hk
    rcases List.mem_append.1 hk with hk | hk
    · simp only [List.mem_cons, List.not_mem_nil, or_false] at hk
      rcases hk with rfl | rfl | rfl | rfl | rfl | rfl | rfl | rfl | rfl
      · exact .inl (StoreAt.memOf 0 rfl)
      · exact .inl (StoreAt.memOf 1 rfl)
      · exact .inr g1
      · exact .inr g2
      · exact .inr g3
      · exact .inr g4
      · exact .inl (StoreAt.memOf 6 rfl)
      · exact .inl (StoreAt.memOf 7 rfl)
      · exact .inl (StoreAt.memOf 8 rfl)
    · exact .inl (List.mem_append_right _ hk)
end

end Go.Proofs.YtiojnjihbidbiaaGreat
/- A store with one node more, put together out of its parts. -/
namespace Go.Proofs.YtiojnjihbidbiaaGreat
open Go.RowKit
set_option linter.unusedVariables false

theorem nodeCells_push (L : List Bdd.Nd) (d : Bdd.Nd) : nodeCells (L ++ [d]) = nodeCells L ++ [.bool true, .int .i64 (d.lv : Int), .int .u32 (d.lo : Int), .int .u32 (d.hi : Int)] := by
  simp [nodeCells]

section
variable {w w' : World} {s : Nat} {y : Lay} {n room : Nat} {off : Bool} {L : List Bdd.Nd} {K C : List Nat} {sl : Nat → Option Nat}

theorem add_store {O : List Nat} {d : Bdd.Nd} {g cap : Nat} {K' : List Nat} {sl' : Nat → Option Nat} (h : StoreAt w s y n room off L K C sl) (hroom : L.length < room) (hfit : 2 * (L.length + 1) ≤ K.length)
    (hl : d.lv < n) (hlo : Bdd.IsNd (Bdd.tab L) d.lo) (hhi : Bdd.IsNd (Bdd.tab L) d.hi) (llo : d.lv < Bdd.lev n (Bdd.tab L) d.lo) (lhi : d.lv < Bdd.lev n (Bdd.tab L) d.hi) (hne : d.lo ≠ d.hi) (hnew : ∀ k, Bdd.tab L k ≠ some d)
    (hB : Blk w' s #[.int .i64 (room : Int), .pointer (some ⟨y.ord, 0, none⟩), .slice (some ⟨g, 0, none⟩) (L.length + 1) cap, .slice none 0 0, .pointer (some ⟨y.tab, 0, none⟩), .map (some y.slo), .pointer (some ⟨y.cac, 0, none⟩), .bool off] 134)
    (hown : w'.ownsRow 0 220 4 (.slice (some ⟨g, 0, none⟩) (L.length + 1) cap) (L.length + 1) (nodeCells (L ++ [d]))) (hT : TableAt w' y.tab y.tm y.tc K') (hM : MapAt w' y.slo .i64 (slf sl')) (hK : K'.length = K.length)
    (hI : Bdd.TabInv (homeF K'.length) K' sl' (L ++ [d]) (L.length + 1)) (hF : Fr O w w') (hO : ∀ k ∈ O, k = s ∨ k = y.tm ∨ k = y.tc ∨ k = y.slo ∨ y.nv.ownBlock = some k ∨ w.heap.size ≤ k) (hg : y.nv.ownBlock = some g ∨ w.heap.size ≤ g) (hgl : g < w'.heap.size) :
    StoreAt w' s ⟨y.ord, .slice (some ⟨g, 0, none⟩) (L.length + 1) cap, y.tab, y.tm, y.tc, y.slo, y.cac, y.cm, y.cc⟩ n room off (L ++ [d]) K' C sl' ∧
      (∀ k ∈ Lay.blocks ⟨y.ord, .slice (some ⟨g, 0, none⟩) (L.length + 1) cap, y.tab, y.tm, y.tc, y.slo, y.cac, y.cm, y.cc⟩ s, k ∈ y.blocks s ∨ w.heap.size ≤ k) ∧
      Fr (y.blocks s) w w' ∧ Bdd.Gr n L (L ++ [d]) (if d.lv < 5 then 1 else 0) := by
  have gr := Bdd.Gr.push h.wf hl hlo hhi llo lhi hne hnew
  have ins := h.inside
  have lt : ∀ i a, (y.blocks s)[i]? = some a → a < w.heap.size := fun i a ha => ins a (StoreAt.memOf i ha)
  -- which blocks have not been touched
  have keep : ∀ i a, (y.blocks s)[i]? = some a → i ≠ 0 → i ≠ 3 → i ≠ 4 → i ≠ 5 → i < 9 → a ∉ O := by
    intro i a ha h0 h3 h4 h5 h9 hm
    rcases hO a hm with e | e | e | e | e | e
    · exact h.sep i 0 ha rfl h0 e
    · exact h.sep i 3 ha rfl h3 e
    · exact h.sep i 4 ha rfl h4 e
    · exact h.sep i 5 ha rfl h5 e
    · exact h.ownNe e i h9 ha rfl
    · have := lt i a ha; omega
  refine ⟨⟨hB, h.ord.fr hF (keep 1 _ rfl (by omega) (by omega) (by omega) (by omega) (by omega)), ?_, hT, hM, h.cache.fr hF (keep 6 _ rfl (by omega) (by omega) (by omega) (by omega) (by omega)) (keep 7 _ rfl (by omega) (by omega) (by omega) (by omega) (by omega)) (keep 8 _ rfl (by omega) (by omega) (by omega) (by omega) (by omega)),
    ?_, ?_, h.vars, h.rooms, by simp; omega, by simp; omega, by have := h.big; omega, gr.wf, by simpa using hI, h.cinv.more h.wf gr, h.vers⟩, ?_, ?_, gr⟩
  · show w'.ownsRow _ _ _ _ (L ++ [d]).length _
    rw [List.length_append]; exact hown
  · show ([s, y.ord, y.tab, y.tm, y.tc, y.slo, y.cac, y.cm, y.cc] ++ [g]).Nodup
    have base : [s, y.ord, y.tab, y.tm, y.tc, y.slo, y.cac, y.cm, y.cc].Nodup := (List.nodup_append.1 h.apart).1
    refine List.nodup_append.2 ⟨base, by simp, fun a ha b hb => ?_⟩
    simp only [List.mem_singleton] at hb
    subst hb
    have hal := ins a (List.mem_append_left _ ha)
    rcases hg with hg | hg
    · obtain ⟨i, hi⟩ := List.mem_iff_getElem?.1 ha
      have hi9 : i < 9 := by have := (List.getElem?_eq_some_iff.1 hi).1; simpa using this
      exact h.ownNe hg i hi9 (by rw [Lay.blocks, List.getElem?_append_left (by simpa using hi9)]; exact hi)
    · omega
  · intro k hk
    rcases List.mem_append.1 hk with hk | hk
    · exact Nat.lt_of_lt_of_le (ins k (List.mem_append_left _ hk)) hF.size
    · simp only [Value.ownBlock, Option.toList_some, List.mem_singleton] at hk; subst hk; exact hgl
  · intro k hk
    rcases List.mem_append.1 hk with hk | hk
    · exact .inl (List.mem_append_left _ hk)
    · simp only [Value.ownBlock, Option.toList_some, List.mem_singleton] at hk; subst hk
      exact hg.imp (fun e => List.mem_append_right _ (by simp [e])) id
  · refine hF.mono fun k hk => ?_
    rcases hO k hk with e | e | e | e | e | e
    · subst e; exact .inl (StoreAt.memOf 0 rfl)
    · subst e; exact .inl (StoreAt.memOf 3 rfl)
    · subst e; exact .inl (StoreAt.memOf 4 rfl)
    · subst e; exact .inl (StoreAt.memOf 5 rfl)
    · exact .inl (List.mem_append_right _ (by simp [e]))
    · exact .inr e
end

end Go.Proofs.YtiojnjihbidbiaaGreat

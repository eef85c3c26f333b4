/- A store of nodes in memory: what its blocks hold; its readers, walked. -/
import Derived.Test.YtiojnjihbidbiaaGreatCache5
import Derived.Test.YtiojnjihbidbiaaGreatCache6
import Derived.Test.YtiojnjihbidbiaaGreatMaps
import Derived.Deep.AppendLies
namespace Go.Proofs.YtiojnjihbidbiaaGreat
open Go.RowKit
attribute [local go_sem ↓] Go.wp_at_zero Go.wp_at_succ
set_option linter.unusedVariables false

/-- Where a store's parts lie. -/
structure Lay where
  ord : Nat
  nv : Value
  tab : Nat
  tm : Nat
  tc : Nat
  slo : Nat
  cac : Nat
  cm : Nat
  cc : Nat

def Lay.blocks (y : Lay) (s : Nat) : List Nat := [s, y.ord, y.tab, y.tm, y.tc, y.slo, y.cac, y.cm, y.cc] ++ y.nv.ownBlock.toList

/-- An order in which each variable lies at its own level. -/
def ordV (n i : Nat) : Int := if i < n then (i : Int) else 0
def ordCells (n : Nat) : Array Value :=
  #[.int .i64 (n : Int), .int .i64 (ordV n 0), .int .i64 (ordV n 1), .int .i64 (ordV n 2), .int .i64 (ordV n 3), .int .i64 (ordV n 4), .int .i64 (ordV n 5), .int .i64 (ordV n 6), .int .i64 (ordV n 7),
    .int .i64 (ordV n 0), .int .i64 (ordV n 1), .int .i64 (ordV n 2), .int .i64 (ordV n 3), .int .i64 (ordV n 4), .int .i64 (ordV n 5), .int .i64 (ordV n 6), .int .i64 (ordV n 7)]
theorem ordV_lt {n i : Nat} (h : i < n) : ordV n i = (i : Int) := by simp [ordV, h]
theorem ordCells_var {n i : Nat} (h : i < n) (hn : n ≤ 8) : (ordCells n)[1 + i]? = some (.int .i64 (i : Int)) := by
  rw [← ordV_lt h]
  have : i = 0 ∨ i = 1 ∨ i = 2 ∨ i = 3 ∨ i = 4 ∨ i = 5 ∨ i = 6 ∨ i = 7 := by omega
  rcases this with rfl | rfl | rfl | rfl | rfl | rfl | rfl | rfl <;> rfl
theorem ordCells_level {n i : Nat} (h : i < n) (hn : n ≤ 8) : (ordCells n)[9 + i]? = some (.int .i64 (i : Int)) := by
  rw [← ordV_lt h]
  have : i = 0 ∨ i = 1 ∨ i = 2 ∨ i = 3 ∨ i = 4 ∨ i = 5 ∨ i = 6 ∨ i = 7 := by omega
  rcases this with rfl | rfl | rfl | rfl | rfl | rfl | rfl | rfl <;> rfl

/-- The nodes' cells. -/
def nodeCells (L : List Bdd.Nd) : List Value := L.flatMap fun d => [.bool true, .int .i64 (d.lv : Int), .int .u32 (d.lo : Int), .int .u32 (d.hi : Int)]

theorem nodeCells_length (L : List Bdd.Nd) : (nodeCells L).length = L.length * 4 := by
  induction L with
  | nil => rfl
  | cons d L ih => simp only [nodeCells, List.flatMap_cons, List.length_append] at ih ⊢; simp only [ih, List.length_cons, List.length_nil]; omega

theorem nodeCells_get : ∀ (L : List Bdd.Nd) (i : Nat) (d : Bdd.Nd), L[i]? = some d →
    (nodeCells L)[i * 4]? = some (.bool true) ∧ (nodeCells L)[i * 4 + 1]? = some (.int .i64 (d.lv : Int)) ∧ (nodeCells L)[i * 4 + 2]? = some (.int .u32 (d.lo : Int)) ∧ (nodeCells L)[i * 4 + 3]? = some (.int .u32 (d.hi : Int))
  | [], i, d, h => by simp at h
  | c :: L, 0, d, h => by
    simp at h; subst h
    simp [nodeCells]
  | c :: L, i + 1, d, h => by
    have ih := nodeCells_get L i d (by simpa using h)
    have e : nodeCells (c :: L) = [.bool true, .int .i64 (c.lv : Int), .int .u32 (c.lo : Int), .int .u32 (c.hi : Int)] ++ nodeCells L := by simp [nodeCells]
    have s : ∀ j, ([Value.bool true, .int .i64 (c.lv : Int), .int .u32 (c.lo : Int), .int .u32 (c.hi : Int)] ++ nodeCells L)[(i + 1) * 4 + j]? = (nodeCells L)[i * 4 + j]? := fun j => by
      rw [List.getElem?_append_right (by simp; omega)]
      congr 1
      simp; omega
    rw [e]
    exact ⟨(s 0).trans ih.1, (s 1).trans ih.2.1, (s 2).trans ih.2.2.1, (s 3).trans ih.2.2.2⟩

/-- The slice v owns the nodes L. -/
def NodesAt (w : World) (v : Value) (L : List Bdd.Nd) : Prop := w.ownsRow 0 220 4 v L.length (nodeCells L)

theorem NodesAt.node {w : World} {v : Value} {L : List Bdd.Nd} (h : NodesAt w v L) {i : Nat} {d : Bdd.Nd} (hd : L[i]? = some d) :
    ∃ g cap, v = .slice (some ⟨g, 0, none⟩) L.length cap ∧ L.length ≤ cap ∧ w.cell? ⟨g, i * 4, none⟩ = some (.bool true) ∧ w.cell? ⟨g, i * 4 + 1, none⟩ = some (.int .i64 (d.lv : Int)) ∧
      w.cell? ⟨g, i * 4 + 2, none⟩ = some (.int .u32 (d.lo : Int)) ∧ w.cell? ⟨g, i * 4 + 3, none⟩ = some (.int .u32 (d.hi : Int)) := by
  have hi := (List.getElem?_eq_some_iff.1 hd).1
  obtain ⟨g0, g1, g2, g3⟩ := nodeCells_get L i d hd
  obtain ⟨hx, h⟩ := h
  rcases h with ⟨_, h0⟩ | ⟨g, cap, cur, rfl, _, hg, hc, hm, hs, ht⟩
  · omega
  · have cell : ∀ j u, (nodeCells L)[j]? = some u → w.cell? ⟨g, j, none⟩ = some u := fun j u hj => by
      simp only [World.cell?, hg]
      rw [← ht] at hj
      rw [List.getElem?_take] at hj
      split at hj
      · simpa using hj
      · cases hj
    exact ⟨g, cap, rfl, hc, cell _ _ g0, cell _ _ g1, cell _ _ g2, cell _ _ g3⟩

theorem NodesAt.shape {w : World} {v : Value} {L : List Bdd.Nd} (h : NodesAt w v L) : ∃ a cap, v = .slice a L.length cap ∧ L.length ≤ cap := by
  obtain ⟨_, h⟩ := h
  rcases h with ⟨rfl, h0⟩ | ⟨g, cap, cur, rfl, _, hg, hc, hm, hs, ht⟩
  · exact ⟨none, 0, by rw [h0], by omega⟩
  · exact ⟨_, _, rfl, hc⟩

theorem NodesAt.fr {O : List Nat} {w w' : World} {v : Value} {L : List Bdd.Nd} (h : NodesAt w v L) (f : Fr O w w') (hb : ∀ k, v.ownBlock = some k → k ∉ O) : NodesAt w' v L := by
  obtain ⟨h1, h2⟩ := h
  refine ⟨h1, ?_⟩
  rcases h2 with h2 | ⟨g, cap, cur, rfl, hb0, hg, r⟩
  · exact .inl h2
  · refine .inr ⟨g, cap, cur, rfl, hb0, ?_, r⟩
    rw [f.block g (Array.getElem?_eq_some_iff.1 hg).1 (hb g rfl)]; exact hg

/-- What the map of slots holds. -/
def slf (sl : Nat → Option Nat) : Int → Option Value := fun x => if 0 ≤ x then (sl x.toNat).map (fun (h : Nat) => Value.int .u32 (h : Int)) else none

/-- A store in memory: n variables, room for so many nodes, off: nothing is cached, the nodes L. -/
structure StoreAt (w : World) (s : Nat) (y : Lay) (n room : Nat) (off : Bool) (L : List Bdd.Nd) (K C : List Nat) (sl : Nat → Option Nat) : Prop where
  head : Blk w s #[.int .i64 (room : Int), .pointer (some ⟨y.ord, 0, none⟩), y.nv, .slice none 0 0, .pointer (some ⟨y.tab, 0, none⟩), .map (some y.slo), .pointer (some ⟨y.cac, 0, none⟩), .bool off] 134
  ord : Blk w y.ord (ordCells n) 206
  nodes : NodesAt w y.nv L
  table : TableAt w y.tab y.tm y.tc K
  slots : MapAt w y.slo .i64 (slf sl)
  cache : CacheAt w y.cac y.cm y.cc C
  apart : (y.blocks s).Nodup
  inside : ∀ k ∈ y.blocks s, k < w.heap.size
  vars : 1 ≤ n ∧ n ≤ 8
  rooms : 1 ≤ room ∧ room ≤ 32768
  len : L.length ≤ room
  half : 2 * L.length ≤ K.length
  big : K.length ≤ 131072
  wf : Bdd.Wf n (Bdd.tab L)
  tinv : Bdd.TabInv (homeF K.length) K sl L L.length
  cinv : Bdd.CacheInv n L 256 C
  vers : ∀ l, l < 256 → K0 C (3 * l) < 2 ^ 64

theorem StoreAt.fr {O : List Nat} {w w' : World} {s : Nat} {y : Lay} {n room : Nat} {off : Bool} {L : List Bdd.Nd} {K C : List Nat} {sl : Nat → Option Nat} (h : StoreAt w s y n room off L K C sl) (f : Fr O w w')
    (hO : ∀ k ∈ y.blocks s, k ∉ O) : StoreAt w' s y n room off L K C sl := by
  have m : ∀ k, k ∈ [s, y.ord, y.tab, y.tm, y.tc, y.slo, y.cac, y.cm, y.cc] → k ∉ O := fun k hk => hO k (List.mem_append_left _ hk)
  exact ⟨h.head.fr f (m _ (by simp)), h.ord.fr f (m _ (by simp)), h.nodes.fr f (fun k hk => hO k (List.mem_append_right _ (by simp [hk]))),
    h.table.fr f (m _ (by simp)) (m _ (by simp)) (m _ (by simp)), h.slots.fr f (m _ (by simp)), h.cache.fr f (m _ (by simp)) (m _ (by simp)) (m _ (by simp)), h.apart,
    fun k hk => by have := h.inside k hk; have := f.size; omega, h.vars, h.rooms, h.len, h.half, h.big, h.wf, h.tinv, h.cinv, h.vers⟩

end Go.Proofs.YtiojnjihbidbiaaGreat

/- A store with one node more, put together out of its parts. -/
import Derived.Test.YtiojnjihbidbiaaGreatStore8
namespace Go.Proofs.YtiojnjihbidbiaaGreat
open Go.RowKit
set_option linter.unusedVariables false

theorem nodeCells_push (L : List Bdd.Nd) (d : Bdd.Nd) : nodeCells (L ++ [d]) = nodeCells L ++ [.bool true, .int .i64 (d.lv : Int), .int .u32 (d.lo : Int), .int .u32 (d.hi : Int)] := by
  simp [nodeCells]

section
variable {w w' : World} {s : Nat} {y : Lay} {n room : Nat} {off : Bool} {L : List Bdd.Nd} {K C : List Nat} {sl : Nat → Option Nat}

theorem add_store {O : List Nat} {d : Bdd.Nd} {g cap : Nat} {K' : List Nat} {sl' : Nat → Option Nat} (h : StoreAt w s y n room off L K C sl) (hroom : L.length < room) (hfit : 2 * (L.length + 1) ≤ K.length)
    (hl : d.lv < n) (hlo : Bdd.IsNd (Bdd.tab L) d.lo) (hhi : Bdd.IsNd (Bdd.tab L) d.hi) (llo : d.lv < Bdd.lev n (Bdd.tab L) d.lo) (lhi : d.lv < Bdd.lev n (Bdd.tab L) d.hi) (hne : d.lo ≠ d.hi) (hnew : ∀ k, Bdd.tab L k ≠ some d)
    (hB : Blk w' s #[.int .i64 (room : Int), .pointer (some ⟨y.ord, 0, none⟩), .slice (some ⟨g, 0, none⟩) (L.length + 1) cap, .slice none 0 0, .pointer (some ⟨y.tab, 0, none⟩), .map (some y.slo), .pointer (some ⟨y.cac, 0, none⟩), .bool off] 134)
    (hown : w'.ownsRow 0 220 4 (.slice (some ⟨g, 0, none⟩) (L.length + 1) cap) (L.length + 1) (nodeCells (L ++ [d]))) (hT : TableAt w' y.tab y.tm y.tc K') (hM : MapAt w' y.slo .i64 (slf sl')) (hK : K'.length = K.length)
    (hI : Bdd.TabInv (homeF K'.length) K' sl' (L ++ [d]) (L.length + 1)) (hF : Fr O w w') (hO : ∀ k ∈ O, k = s ∨ k = y.tm ∨ k = y.tc ∨ k = y.slo ∨ y.nv.ownBlock = some k ∨ w.heap.size ≤ k) (hg : y.nv.ownBlock = some g ∨ w.heap.size ≤ g) (hgl : g < w'.heap.size) :
    StoreAt w' s ⟨y.ord, .slice (some ⟨g, 0, none⟩) (L.length + 1) cap, y.tab, y.tm, y.tc, y.slo, y.cac, y.cm, y.cc⟩ n room off (L ++ [d]) K' C sl' ∧
      (∀ k ∈ Lay.blocks ⟨y.ord, .slice (some ⟨g, 0, none⟩) (L.length + 1) cap, y.tab, y.tm, y.tc, y.slo, y.cac, y.cm, y.cc⟩ s, k ∈ y.blocks s ∨ w.heap.size ≤ k) ∧
      Fr (y.blocks s) w w' ∧ Bdd.Gr n L (L ++ [d]) (if d.lv < 5 then 1 else 0) := by
  have gr := Bdd.Gr.push h.wf hl hlo hhi llo lhi hne hnew
  have ins := h.inside
  have lt : ∀ i a, (y.blocks s)[i]? = some a → a < w.heap.size := fun i a ha => ins a (StoreAt.memOf i ha)
  -- which blocks have not been touched
  have keep : ∀ i a, (y.blocks s)[i]? = some a → i ≠ 0 → i ≠ 3 → i ≠ 4 → i ≠ 5 → i < 9 → a ∉ O := by
    intro i a ha h0 h3 h4 h5 h9 hm
    rcases hO a hm with e | e | e | e | e | e
    · exact h.sep i 0 ha rfl h0 e
    · exact h.sep i 3 ha rfl h3 e
    · exact h.sep i 4 ha rfl h4 e
    · exact h.sep i 5 ha rfl h5 e
    · exact h.ownNe e i h9 ha rfl
    · have := lt i a ha; omega
  refine ⟨⟨hB, h.ord.fr hF (keep 1 _ rfl (by omega) (by omega) (by omega) (by omega) (by omega)), ?_, hT, hM, h.cache.fr hF (keep 6 _ rfl (by omega) (by omega) (by omega) (by omega) (by omega)) (keep 7 _ rfl (by omega) (by omega) (by omega) (by omega) (by omega)) (keep 8 _ rfl (by omega) (by omega) (by omega) (by omega) (by omega)),
    ?_, ?_, h.vars, h.rooms, by simp; omega, by simp; omega, by have := h.big; omega, gr.wf, by simpa using hI, h.cinv.more h.wf gr, h.vers⟩, ?_, ?_, gr⟩
  · show w'.ownsRow _ _ _ _ (L ++ [d]).length _
    rw [List.length_append]; exact hown
  · show ([s, y.ord, y.tab, y.tm, y.tc, y.slo, y.cac, y.cm, y.cc] ++ [g]).Nodup
    have base : [s, y.ord, y.tab, y.tm, y.tc, y.slo, y.cac, y.cm, y.cc].Nodup := (List.nodup_append.1 h.apart).1
    refine List.nodup_append.2 ⟨base, by simp, fun a ha b hb => ?_⟩
    simp only [List.mem_singleton] at hb
    subst hb
    have hal := ins a (List.mem_append_left _ ha)
    rcases hg with hg | hg
    · obtain ⟨i, hi⟩ := List.mem_iff_getElem?.1 ha
      have hi9 : i < 9 := by have := (List.getElem?_eq_some_iff.1 hi).1; simpa using this
      exact h.ownNe hg i hi9 (by rw [Lay.blocks, List.getElem?_append_left (by simpa using hi9)]; exact hi)
    · omega
  · intro k hk
    rcases List.mem_append.1 hk with hk | hk
    · exact Nat.lt_of_lt_of_le (ins k (List.mem_append_left _ hk)) hF.size
    · simp only [Value.ownBlock, Option.toList_some, List.mem_singleton] at hk; subst hk; exact hgl
  · intro k hk
    rcases List.mem_append.1 hk with hk | hk
    · exact .inl (List.mem_append_left _ hk)
    · simp only [Value.ownBlock, Option.toList_some, List.mem_singleton] at hk; subst hk
      exact hg.imp (fun e => List.mem_append_right _ (by simp [e])) id
  · refine hF.mono fun k hk => ?_
    rcases hO k hk with e | e | e | e | e | e
    · subst e; exact .inl (StoreAt.memOf 0 rfl)
    · subst e; exact .inl (StoreAt.memOf 3 rfl)
    · subst e; exact .inl (StoreAt.memOf 4 rfl)
    · subst e; exact .inl (StoreAt.memOf 5 rfl)
    · exact .inl (List.mem_append_right _ (by simp [e]))
    · exact .inr e
end

end Go.Proofs.YtiojnjihbidbiaaGreat

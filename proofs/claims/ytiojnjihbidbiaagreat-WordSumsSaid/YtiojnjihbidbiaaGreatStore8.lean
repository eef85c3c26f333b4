/- A store that grows by one node: what the pieces come to, put together. -/
import Derived.Test.YtiojnjihbidbiaaGreatStore7
namespace Go.Proofs.YtiojnjihbidbiaaGreat
open Go.RowKit
set_option linter.unusedVariables false

/-- A store over the blocks B. -/
def Sto (w : World) (s : Nat) (B : List Nat) (n room : Nat) (off : Bool) (L : List Bdd.Nd) : Prop :=
  ∃ y K C sl, B = y.blocks s ∧ StoreAt w s y n room off L K C sl

/-- The store has gone on from L to L': at most c nodes more above level 5; it owns its old blocks and new ones; nothing else has turned. -/
structure Evo (s n room : Nat) (off : Bool) (B : List Nat) (L : List Bdd.Nd) (w : World) (B' : List Nat) (L' : List Bdd.Nd) (w' : World) (c : Nat) : Prop where
  sto : Sto w' s B' n room off L'
  fr : Fr B w w'
  own : ∀ k ∈ B', k ∈ B ∨ w.heap.size ≤ k
  gr : Bdd.Gr n L L' c

theorem Evo.trans {s n room c c' : Nat} {off : Bool} {B B1 B2 : List Nat} {L L1 L2 : List Bdd.Nd} {w w1 w2 : World} (h : Evo s n room off B L w B1 L1 w1 c) (k : Evo s n room off B1 L1 w1 B2 L2 w2 c') : Evo s n room off B L w B2 L2 w2 (c + c') :=
  ⟨k.sto, h.fr.trans k.fr (fun x hx => h.own x hx), fun x hx => (k.own x hx).elim (fun h1 => h.own x h1) (fun h1 => .inr (by have := h.fr.size; omega)), h.gr.trans k.gr⟩
theorem Evo.mono {s n room c c' : Nat} {off : Bool} {B B1 : List Nat} {L L1 : List Bdd.Nd} {w w1 : World} (h : Evo s n room off B L w B1 L1 w1 c) (hc : c ≤ c') : Evo s n room off B L w B1 L1 w1 c' :=
  ⟨h.sto, h.fr, h.own, h.gr.mono hc⟩
theorem Evo.refl {s n room : Nat} {off : Bool} {B : List Nat} {L : List Bdd.Nd} {w : World} (h : Sto w s B n room off L) : Evo s n room off B L w B L w 0 :=
  ⟨h, Fr.refl _ _, fun _ hk => .inl hk, by obtain ⟨y, K, C, sl, _, hs⟩ := h; exact Bdd.Gr.refl hs.wf⟩

theorem Sto.wf {w : World} {s : Nat} {B : List Nat} {n room : Nat} {off : Bool} {L : List Bdd.Nd} (h : Sto w s B n room off L) : Bdd.Wf n (Bdd.tab L) := by obtain ⟨y, K, C, sl, _, hs⟩ := h; exact hs.wf
theorem Sto.vars {w : World} {s : Nat} {B : List Nat} {n room : Nat} {off : Bool} {L : List Bdd.Nd} (h : Sto w s B n room off L) : 1 ≤ n ∧ n ≤ 8 := by obtain ⟨y, K, C, sl, _, hs⟩ := h; exact hs.vars
theorem Sto.len {w : World} {s : Nat} {B : List Nat} {n room : Nat} {off : Bool} {L : List Bdd.Nd} (h : Sto w s B n room off L) : L.length ≤ room ∧ 1 ≤ room ∧ room ≤ 32768 := by
  obtain ⟨y, K, C, sl, _, hs⟩ := h; exact ⟨hs.len, hs.rooms.1, hs.rooms.2⟩
theorem Sto.mem {w : World} {s : Nat} {B : List Nat} {n room : Nat} {off : Bool} {L : List Bdd.Nd} (h : Sto w s B n room off L) : s ∈ B ∧ ∀ k ∈ B, k < w.heap.size := by
  obtain ⟨y, K, C, sl, rfl, hs⟩ := h; exact ⟨by simp [Lay.blocks], hs.inside⟩
theorem Sto.fr {O : List Nat} {w w' : World} {s : Nat} {B : List Nat} {n room : Nat} {off : Bool} {L : List Bdd.Nd} (h : Sto w s B n room off L) (f : Fr O w w') (hO : ∀ k ∈ B, k ∉ O) : Sto w' s B n room off L := by
  obtain ⟨y, K, C, sl, rfl, hs⟩ := h; exact ⟨y, K, C, sl, rfl, hs.fr f hO⟩

theorem old_new {N a t : Nat} (h : a < N) (g : N ≤ t) : a ≠ t := by omega
theorem new_old {N a t : Nat} (h : a < N) (g : N ≤ t) : t ≠ a := by omega

section
variable {w w' : World} {s : Nat} {y : Lay} {n room : Nat} {off : Bool} {L : List Bdd.Nd} {K C : List Nat} {sl : Nat → Option Nat}

theorem StoreAt.sep (h : StoreAt w s y n room off L K C sl) (i j : Nat) {a b : Nat} (ha : (y.blocks s)[i]? = some a) (hb : (y.blocks s)[j]? = some b) (hij : i ≠ j) : a ≠ b := nodup_get h.apart ha hb hij

theorem StoreAt.ownNe (h : StoreAt w s y n room off L K C sl) {k : Nat} (hk : y.nv.ownBlock = some k) (i : Nat) (hi : i < 9) {a : Nat} (ha : (y.blocks s)[i]? = some a) : a ≠ k :=
  nodup_get h.apart ha (j := 9) (by simp [Lay.blocks, hk]) (by omega)

theorem StoreAt.memOf (i : Nat) {a : Nat} (ha : (y.blocks s)[i]? = some a) : a ∈ y.blocks s := List.mem_of_getElem? ha

/-- The table made anew, of twice as many slots. -/
theorem grow_store (h : StoreAt w s y n room off L K C sl) (hroom : L.length < room) (hfull : K.length < 2 * (L.length + 1)) :
    Calls Tryz.prog 96 #[.pointer (some ⟨s, 0, none⟩), .int .i64 (2 * (K.length : Int)), .slice none 0 0] w fun e w' => e = .returned (.tuple #[]) ∧ ∃ y' K' sl',
      StoreAt w' s y' n room off L K' C sl' ∧ K'.length = 2 * K.length ∧ y'.nv = y.nv ∧ Fr [s] w w' ∧ (∀ k ∈ y'.blocks s, k ∈ y.blocks s ∨ w.heap.size ≤ k) := by
  have hK := h.table.2.2.2.2.1
  have h1 := h.half
  have h2 := h.len
  have h3 := h.rooms.2
  rw [show (2 * (K.length : Int)) = ((2 * K.length : Nat) : Int) by omega]
  refine (grows_any s (2 * K.length) _ _ y.nv _ _ _ _ _ n L w h.head h.nodes (fun k hk => h.ownNe hk 0 (by omega) rfl) (by omega) (by omega) (by omega) (by omega) h.wf h.vars.2).mono ?_
  rintro e w' ⟨rfl, tab, tm, tc, slo, K', sl', hK', hB, hN, hT, hM, hI, hF, g1, g2, g3, g4, hnd⟩
  have hhalf : 2 * L.length ≤ K'.length := by omega
  have hbig : K'.length ≤ 131072 := by omega
  have ins := h.inside
  have lt : ∀ i a, (y.blocks s)[i]? = some a → a < w.heap.size := fun i a ha => ins a (StoreAt.memOf i ha)
  have l0 := lt 0 _ rfl
  have l1 := lt 1 _ rfl
  have l6 := lt 6 _ rfl
  have l7 := lt 7 _ rfl
  have l8 := lt 8 _ rfl
  have n01 := h.sep 0 1 rfl rfl (by omega)
  have n06 := h.sep 0 6 rfl rfl (by omega)
  have n07 := h.sep 0 7 rfl rfl (by omega)
  have n08 := h.sep 0 8 rfl rfl (by omega)
  have n16 := h.sep 1 6 rfl rfl (by omega)
  have n17 := h.sep 1 7 rfl rfl (by omega)
  have n18 := h.sep 1 8 rfl rfl (by omega)
  have n67 := h.sep 6 7 rfl rfl (by omega)
  have n68 := h.sep 6 8 rfl rfl (by omega)
  have n78 := h.sep 7 8 rfl rfl (by omega)
  simp only [List.nodup_cons, List.mem_cons, List.not_mem_nil, or_false, not_or, not_false_eq_true, List.nodup_nil, and_true] at hnd
  refine ⟨rfl, ⟨y.ord, y.nv, tab, tm, tc, slo, y.cac, y.cm, y.cc⟩, K', sl', ⟨hB, h.ord.fr hF (by simp; exact n01.symm), hN, hT, hM, h.cache.fr hF (by simp; exact n06.symm) (by simp; exact n07.symm) (by simp; exact n08.symm), ?_, ?_, h.vars, h.rooms, h.len, hhalf, hbig, h.wf, by rw [hK']; exact hI, h.cinv, h.vers⟩, hK', rfl, hF, ?_⟩
  · show ([s, y.ord, tab, tm, tc, slo, y.cac, y.cm, y.cc] ++ y.nv.ownBlock.toList).Nodup
    cases ho : y.nv.ownBlock with
    | none =>
      simp only [Option.toList_none, List.append_nil, List.nodup_cons, List.mem_cons, List.not_mem_nil, or_false, not_or, not_false_eq_true, List.nodup_nil, and_true]
      exact ⟨⟨n01, old_new l0 g1, old_new l0 g2, old_new l0 g3, old_new l0 g4, n06, n07, n08⟩, ⟨old_new l1 g1, old_new l1 g2, old_new l1 g3, old_new l1 g4, n16, n17, n18⟩, ⟨hnd.1.1, hnd.1.2.1, hnd.1.2.2, new_old l6 g1, new_old l7 g1, new_old l8 g1⟩, ⟨hnd.2.1.1, hnd.2.1.2, new_old l6 g2, new_old l7 g2, new_old l8 g2⟩, ⟨hnd.2.2, new_old l6 g3, new_old l7 g3, new_old l8 g3⟩, ⟨new_old l6 g4, new_old l7 g4, new_old l8 g4⟩, ⟨n67, n68⟩, n78⟩
    | some k =>
      have m0 := h.ownNe ho 0 (by omega) rfl
      have m1 := h.ownNe ho 1 (by omega) rfl
      have m6 := h.ownNe ho 6 (by omega) rfl
      have m7 := h.ownNe ho 7 (by omega) rfl
      have m8 := h.ownNe ho 8 (by omega) rfl
      have lk := lt 9 k (by simp [Lay.blocks, ho])
      simp only [Option.toList_some, List.cons_append, List.nil_append, List.nodup_cons, List.mem_cons, List.not_mem_nil, or_false, not_or, not_false_eq_true, List.nodup_nil, and_true]
      exact ⟨⟨n01, old_new l0 g1, old_new l0 g2, old_new l0 g3, old_new l0 g4, n06, n07, n08, m0⟩, ⟨old_new l1 g1, old_new l1 g2, old_new l1 g3, old_new l1 g4, n16, n17, n18, m1⟩, ⟨hnd.1.1, hnd.1.2.1, hnd.1.2.2, new_old l6 g1, new_old l7 g1, new_old l8 g1, new_old lk g1⟩, ⟨hnd.2.1.1, hnd.2.1.2, new_old l6 g2, new_old l7 g2, new_old l8 g2, new_old lk g2⟩, ⟨hnd.2.2, new_old l6 g3, new_old l7 g3, new_old l8 g3, new_old lk g3⟩, ⟨new_old l6 g4, new_old l7 g4, new_old l8 g4, new_old lk g4⟩, ⟨n67, n68, m6⟩, ⟨n78, m7⟩, m8⟩
  · intro k hk
    have hs := hF.size
    have ht := hT.lt
    have hm := hM.lt
    rcases List.mem_append.1 hk with hk | hk
    · simp only [List.mem_cons, List.not_mem_nil, or_false] at hk
      rcases hk with rfl | rfl | rfl | rfl | rfl | rfl | rfl | rfl | rfl
      · exact Nat.lt_of_lt_of_le l0 hs
      · exact Nat.lt_of_lt_of_le l1 hs
      · exact ht.1
      · exact ht.2.1
      · exact ht.2.2
      · exact hm
      · exact Nat.lt_of_lt_of_le l6 hs
      · exact Nat.lt_of_lt_of_le l7 hs
      · exact Nat.lt_of_lt_of_le l8 hs
    · exact Nat.lt_of_lt_of_le (ins k (List.mem_append_right _ hk)) hs
  · intro k hk
    rcases List.mem_append.1 hk with hk | hk
    · simp only [List.mem_cons, List.not_mem_nil, or_false] at hk
      rcases hk with rfl | rfl | rfl | rfl | rfl | rfl | rfl | rfl | rfl
      · exact .inl (StoreAt.memOf 0 rfl)
      · exact .inl (StoreAt.memOf 1 rfl)
      · exact .inr g1
      · exact .inr g2
      · exact .inr g3
      · exact .inr g4
      · exact .inl (StoreAt.memOf 6 rfl)
      · exact .inl (StoreAt.memOf 7 rfl)
      · exact .inl (StoreAt.memOf 8 rfl)
    · exact .inl (List.mem_append_right _ hk)
end

end Go.Proofs.YtiojnjihbidbiaaGreat

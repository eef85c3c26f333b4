/- 'Mk', walked: the node of a level and two children, made where it isn't there yet and there is room. -/
import Derived.Test.YtiojnjihbidbiaaGreatBaseD
import Derived.Test.YtiojnjihbidbiaaGreatBaseC
namespace Go.Proofs.YtiojnjihbidbiaaGreat
open Go.RowKit
attribute [local go_sem ↓] Go.wp_at_zero Go.wp_at_succ
set_option linter.unusedVariables false

/-- An answer of a handle and an error. -/
abbrev ansH (h : Nat) (e : Int) : Ending := .returned (.tuple #[.int .u32 (h : Int), .int .i64 e])

/-- What an operation on the store answers: the store has gone on; it is full, or the answer h has what P says of the nodes that are there now. -/
def OpPost (s n room : Nat) (off : Bool) (B : List Nat) (L : List Bdd.Nd) (w : World) (c : Nat) (P : List Bdd.Nd → Nat → Prop) (e : Ending) (w' : World) : Prop :=
  ∃ B' L', Evo s n room off B L w B' L' w' c ∧ ((e = ansH 0 60 ∧ room ≤ L'.length) ∨ ∃ h, e = ansH h 0 ∧ P L' h)

/-- h is the node whose low and high are these, in the table L'. -/
def MkIs (n lv lo hi : Nat) (L L' : List Bdd.Nd) (h : Nat) : Prop :=
  Bdd.IsNd (Bdd.tab L') h ∧ ∀ z, Bdd.D n (Bdd.tab L') h z = if z lv then Bdd.D n (Bdd.tab L) hi z else Bdd.D n (Bdd.tab L) lo z

/-- How many nodes above level 5 a node of level l is. -/
def mkc (l : Nat) : Nat := if l < 5 then 1 else 0

theorem StoreAt.sto {w : World} {s : Nat} {y : Lay} {n room : Nat} {off : Bool} {L : List Bdd.Nd} {K C : List Nat} {sl : Nat → Option Nat} (h : StoreAt w s y n room off L K C sl) : Sto w s (y.blocks s) n room off L :=
  ⟨y, K, C, sl, rfl, h⟩

theorem StoreAt.evo {w w' : World} {s : Nat} {y : Lay} {n room : Nat} {off : Bool} {L : List Bdd.Nd} {K C : List Nat} {sl : Nat → Option Nat} (h : StoreAt w' s y n room off L K C sl) {O : List Nat} (hF : Fr O w w') (hO : ∀ k ∈ O, k ∈ y.blocks s) :
    Evo s n room off (y.blocks s) L w (y.blocks s) L w' 0 :=
  ⟨h.sto, hF.mono (fun k hk => .inl (hO k hk)), fun _ hk => .inl hk, Bdd.Gr.refl h.wf⟩

theorem mkIs_same {n lv lo : Nat} {L : List Bdd.Nd} (hlo : Bdd.IsNd (Bdd.tab L) lo) : MkIs n lv lo lo L L lo := ⟨hlo, fun z => by split <;> rfl⟩

theorem mkIs_node {n i : Nat} {d : Bdd.Nd} {L L' : List Bdd.Nd} {c : Nat} (hw : Bdd.Wf n (Bdd.tab L)) (g : Bdd.Gr n L L' c) (hlo : Bdd.IsNd (Bdd.tab L) d.lo) (hhi : Bdd.IsNd (Bdd.tab L) d.hi) (hd : L'[i]? = some d) : MkIs n d.lv d.lo d.hi L L' (i + 2) := by
  have ht : Bdd.tab L' (i + 2) = some d := by rw [Bdd.tab_two]; exact hd
  exact ⟨.inr ⟨d, ht⟩, fun z => by rw [Bdd.D_node g.wf ht, g.D hw hhi, g.D hw hlo]⟩

end Go.Proofs.YtiojnjihbidbiaaGreat
/- 'Mk', walked: the node of a level and two children, made where it isn't there yet and there is room. -/
namespace Go.Proofs.YtiojnjihbidbiaaGreat
open Go.RowKit
attribute [local go_sem ↓] Go.wp_at_zero Go.wp_at_succ
set_option linter.unusedVariables false

theorem StoreAt.drewN {w : World} {s : Nat} {y : Lay} {n room : Nat} {off : Bool} {L : List Bdd.Nd} {K C : List Nat} {sl : Nat → Option Nat} (h : StoreAt w s y n room off L K C sl) (m : Nat) : StoreAt (w.drewN m) s y n room off L K C sl :=
  h.fr ((Fr.refl [] w).drewN m) (by simp)

/-- Four cells of a row written: an absent node becomes a node. -/
theorem row_node {w : World} {g cap : Nat} {L : List Bdd.Nd} {d : Bdd.Nd} (h : w.ownsRow 0 220 4 (.slice (some ⟨g, 0, none⟩) (L.length + 1) cap) (L.length + 1) (nodeCells L ++ absent)) :
    ((((w.setCell ⟨g, L.length * 4, none⟩ (.bool true)).setCell ⟨g, L.length * 4 + 1, none⟩ (.int .i64 (d.lv : Int))).setCell ⟨g, L.length * 4 + 2, none⟩ (.int .u32 (d.lo : Int))).setCell ⟨g, L.length * 4 + 3, none⟩ (.int .u32 (d.hi : Int))).ownsRow 0 220 4
      (.slice (some ⟨g, 0, none⟩) (L.length + 1) cap) (L.length + 1) (nodeCells (L ++ [d])) := by
  have h4 := ((((h.stored (L.length * 4) (.bool true)).1.stored (L.length * 4 + 1) (.int .i64 (d.lv : Int))).1.stored (L.length * 4 + 2) (.int .u32 (d.lo : Int))).1.stored (L.length * 4 + 3) (.int .u32 (d.hi : Int))).1
  have e : ((((nodeCells L ++ absent).set (L.length * 4) (.bool true)).set (L.length * 4 + 1) (.int .i64 (d.lv : Int))).set (L.length * 4 + 2) (.int .u32 (d.lo : Int))).set (L.length * 4 + 3) (.int .u32 (d.hi : Int)) = nodeCells (L ++ [d]) := by
    rw [nodeCells_push, ← nodeCells_length L]
    rw [List.set_append_right _ _ (Nat.le_refl _), List.set_append_right _ _ (by omega), List.set_append_right _ _ (by omega), List.set_append_right _ _ (by omega)]
    simp [absent]
  rw [e] at h4
  exact h4

theorem cells_new {w : World} {g cap : Nat} {L : List Bdd.Nd} (h : w.ownsRow 0 220 4 (.slice (some ⟨g, 0, none⟩) (L.length + 1) cap) (L.length + 1) (nodeCells L ++ absent)) :
    w.cell? ⟨g, L.length * 4, none⟩ = some (.bool false) ∧ w.cell? ⟨g, L.length * 4 + 1, none⟩ = some (.int .i64 0) ∧ w.cell? ⟨g, L.length * 4 + 2, none⟩ = some (.int .u32 0) ∧ w.cell? ⟨g, L.length * 4 + 3, none⟩ = some (.int .u32 0) := by
  have hl := nodeCells_length L
  have c : ∀ j, j < 4 → w.cell? ⟨g, L.length * 4 + j, none⟩ = absent[j]? := fun j hj => by
    rw [h.cellAt _ (by omega), List.getElem?_append_right (by omega)]
    congr 1; omega
  exact ⟨c 0 (by omega), c 1 (by omega), c 2 (by omega), c 3 (by omega)⟩

/-- The world behind the four stores. -/
def laidW (w : World) (g len lv lo hi : Nat) : World :=
  (((w.setCell ⟨g, len * 4, none⟩ (.bool true)).setCell ⟨g, len * 4 + 1, none⟩ (.int .i64 (lv : Int))).setCell ⟨g, len * 4 + 2, none⟩ (.int .u32 (lo : Int))).setCell ⟨g, len * 4 + 3, none⟩ (.int .u32 (hi : Int))

theorem own_fr {O : List Nat} {w w' : World} {g n cap : Nat} {xs : List Value} (h : w.ownsRow 0 220 4 (.slice (some ⟨g, 0, none⟩) n cap) n xs) (f : Fr O w w') (hg : g ∉ O) : w'.ownsRow 0 220 4 (.slice (some ⟨g, 0, none⟩) n cap) n xs := by
  obtain ⟨r1, r2⟩ := h
  refine ⟨r1, ?_⟩
  rcases r2 with r2 | ⟨g', cap', cur, e, hb0, hh, r⟩
  · exact absurd r2.1 (by simp)
  · refine .inr ⟨g', cap', cur, e, hb0, ?_, r⟩
    have : g' = g := by simp at e; exact e.1.symm
    subst this
    rw [f.block g' (Array.getElem?_eq_some_iff.1 hh).1 hg]; exact hh

/-- Where a node's cells have been written: all that 'lays' asks. -/
theorem tail_ready {w w4 : World} {s : Nat} {y : Lay} {n room : Nat} {off : Bool} {L : List Bdd.Nd} {K C : List Nat} {sl : Nat → Option Nat} {g cap : Nat} {d : Bdd.Nd} (h : StoreAt w s y n room off L K C sl)
    (hB : Blk w4 s #[.int .i64 (room : Int), .pointer (some ⟨y.ord, 0, none⟩), .slice (some ⟨g, 0, none⟩) (L.length + 1) cap, .slice none 0 0, .pointer (some ⟨y.tab, 0, none⟩), .map (some y.slo), .pointer (some ⟨y.cac, 0, none⟩), .bool off] 134)
    (hown : w4.ownsRow 0 220 4 (.slice (some ⟨g, 0, none⟩) (L.length + 1) cap) (L.length + 1) (nodeCells L ++ absent)) (hF : Fr (s :: y.nv.ownBlock.toList) w w4) (hg : y.nv.ownBlock = some g ∨ w.heap.size ≤ g) (hgl : g < w4.heap.size) (hgs : ¬ g = s) :
    Blk (laidW w4 g L.length d.lv d.lo d.hi) s #[.int .i64 (room : Int), .pointer (some ⟨y.ord, 0, none⟩), .slice (some ⟨g, 0, none⟩) (L.length + 1) cap, .slice none 0 0, .pointer (some ⟨y.tab, 0, none⟩), .map (some y.slo), .pointer (some ⟨y.cac, 0, none⟩), .bool off] 134 ∧
    TableAt (laidW w4 g L.length d.lv d.lo d.hi) y.tab y.tm y.tc K ∧ MapAt (laidW w4 g L.length d.lv d.lo d.hi) y.slo .i64 (slf sl) ∧
    (laidW w4 g L.length d.lv d.lo d.hi).ownsRow 0 220 4 (.slice (some ⟨g, 0, none⟩) (L.length + 1) cap) (L.length + 1) (nodeCells (L ++ [d])) ∧
    Fr (s :: y.nv.ownBlock.toList) w (laidW w4 g L.length d.lv d.lo d.hi) ∧ g < (laidW w4 g L.length d.lv d.lo d.hi).heap.size := by
  have hin : ∀ o, (⟨g, o, none⟩ : Addr).block ∈ s :: y.nv.ownBlock.toList ∨ w.heap.size ≤ (⟨g, o, none⟩ : Addr).block := fun o => by
    rcases hg with e | e
    · exact .inl (by simp [e])
    · exact .inr e
  have F5 : Fr (s :: y.nv.ownBlock.toList) w (laidW w4 g L.length d.lv d.lo d.hi) := (((hF.setCell _ (hin _)).setCell _ (hin _)).setCell _ (hin _)).setCell _ (hin _)
  have nin : ∀ i a, (y.blocks s)[i]? = some a → i ≠ 0 → i < 9 → a ∉ s :: y.nv.ownBlock.toList := by
    intro i a ha h0 h9 hm
    rcases List.mem_cons.1 hm with e | e
    · exact h.sep i 0 ha rfl h0 e
    · simp only [Option.mem_toList] at e
      exact h.ownNe e i h9 ha rfl
  refine ⟨?_, h.table.fr F5 (nin 2 _ rfl (by omega) (by omega)) (nin 3 _ rfl (by omega) (by omega)) (nin 4 _ rfl (by omega) (by omega)), h.slots.fr F5 (nin 5 _ rfl (by omega) (by omega)), row_node hown, F5, by simpa [laidW, World.setCell] using hgl⟩
  exact (((hB.other _ (fun e => hgs e.symm)).other _ (fun e => hgs e.symm)).other _ (fun e => hgs e.symm)).other _ (fun e => hgs e.symm)

/-- Behind 'lays': the store with the new node. -/
theorem tail_done {w w6 W : World} {s : Nat} {y : Lay} {n room : Nat} {off : Bool} {L : List Bdd.Nd} {K C : List Nat} {sl : Nat → Option Nat} {g cap : Nat} {d : Bdd.Nd} {K' : List Nat} {sl' : Nat → Option Nat} (h : StoreAt w s y n room off L K C sl) (hroom : L.length < room) (hfit : 2 * (L.length + 1) ≤ K.length)
    (hl : d.lv < n) (hlo : Bdd.IsNd (Bdd.tab L) d.lo) (hhi : Bdd.IsNd (Bdd.tab L) d.hi) (llo : d.lv < Bdd.lev n (Bdd.tab L) d.lo) (lhi : d.lv < Bdd.lev n (Bdd.tab L) d.hi) (hne : d.lo ≠ d.hi) (hnew : ∀ (i : Nat) (x : Bdd.Nd), L[i]? = some x → Bdd.keyN x ≠ Bdd.keyN d)
    (hB : Blk W s #[.int .i64 (room : Int), .pointer (some ⟨y.ord, 0, none⟩), .slice (some ⟨g, 0, none⟩) (L.length + 1) cap, .slice none 0 0, .pointer (some ⟨y.tab, 0, none⟩), .map (some y.slo), .pointer (some ⟨y.cac, 0, none⟩), .bool off] 134)
    (hown : W.ownsRow 0 220 4 (.slice (some ⟨g, 0, none⟩) (L.length + 1) cap) (L.length + 1) (nodeCells (L ++ [d]))) (hFW : Fr (s :: y.nv.ownBlock.toList) w W) (hg : y.nv.ownBlock = some g ∨ w.heap.size ≤ g) (hgl : g < W.heap.size)
    (hT : TableAt w6 y.tab y.tm y.tc K') (hM : MapAt w6 y.slo .i64 (slf sl')) (hK : K'.length = K.length) (hI : Bdd.TabInv (homeF K'.length) K' sl' (L ++ [d]) (L.length + 1)) (hF : Fr [y.tm, y.tc, y.slo] W w6) :
    ∃ B' L', Evo s n room off (y.blocks s) L w B' L' w6 (mkc d.lv) ∧ MkIs n d.lv d.lo d.hi L L' (L.length + 2) := by
  have ins : ∀ i a, (y.blocks s)[i]? = some a → a < w.heap.size := fun i a ha => h.inside a (StoreAt.memOf i ha)
  have sn : s ∉ [y.tm, y.tc, y.slo] := by
    simp only [List.mem_cons, List.not_mem_nil, or_false, not_or]
    exact ⟨h.sep 0 3 rfl rfl (by omega), h.sep 0 4 rfl rfl (by omega), h.sep 0 5 rfl rfl (by omega)⟩
  have gn : g ∉ [y.tm, y.tc, y.slo] := by
    simp only [List.mem_cons, List.not_mem_nil, or_false, not_or]
    rcases hg with e | e
    · exact ⟨(h.ownNe e 3 (by omega) rfl).symm, (h.ownNe e 4 (by omega) rfl).symm, (h.ownNe e 5 (by omega) rfl).symm⟩
    · exact ⟨new_old (ins 3 _ rfl) e, new_old (ins 4 _ rfl) e, new_old (ins 5 _ rfl) e⟩
  have hF6 : Fr (s :: y.nv.ownBlock.toList ++ [y.tm, y.tc, y.slo]) w w6 := (hFW.mono (fun x hx => .inl (List.mem_append_left _ hx))).then (hF.mono (fun x hx => .inl (List.mem_append_right _ hx)))
  have hnew' : ∀ k, Bdd.tab L k ≠ some d := fun k e => by
    obtain ⟨k2, hk⟩ := Bdd.tab_some e
    exact hnew _ _ hk rfl
  obtain ⟨r1, r2, r3, r4⟩ := add_store h hroom hfit hl hlo hhi llo lhi hne hnew' (hB.fr hF sn) (own_fr hown hF gn) hT hM hK hI hF6 (fun k hk => by
    rcases List.mem_append.1 hk with hk | hk
    · rcases List.mem_cons.1 hk with e | e
      · exact .inl e
      · simp only [Option.mem_toList] at e; exact .inr (.inr (.inr (.inr (.inl e))))
    · simp only [List.mem_cons, List.not_mem_nil, or_false] at hk
      rcases hk with e | e | e
      · exact .inr (.inl e)
      · exact .inr (.inr (.inl e))
      · exact .inr (.inr (.inr (.inl e)))) hg (Nat.lt_of_lt_of_le hgl hF.size)
  refine ⟨_, L ++ [d], ⟨r1.sto, r3, r2, r4⟩, ?_⟩
  exact mkIs_node h.wf r4 hlo hhi (by simp)

/-- What 'lays' asks of the nodes. -/
theorem lays_asks {n : Nat} {L : List Bdd.Nd} {d : Bdd.Nd} (hw : Bdd.Wf n (Bdd.tab L)) (hne : d.lo ≠ d.hi) (hnew : ∀ (i : Nat) (x : Bdd.Nd), L[i]? = some x → Bdd.keyN x ≠ Bdd.keyN d) :
    (L ++ [d])[L.length]? = some d ∧ (∀ (i : Nat) (x : Bdd.Nd), (L ++ [d])[i]? = some x → Bdd.keyN x ≠ 0) ∧ (∀ (i : Nat) (x : Bdd.Nd), i < L.length → (L ++ [d])[i]? = some x → Bdd.keyN x ≠ Bdd.keyN d) := by
  refine ⟨by simp, fun i x hx => ?_, fun i x hi hx => hnew i x (by rwa [List.getElem?_append_left hi] at hx)⟩
  by_cases hi : i < L.length
  · rw [List.getElem?_append_left hi] at hx
    exact keyN_ne (hw.ne (h := i + 2) (by rw [Bdd.tab_two]; exact hx))
  · have : i = L.length := by
      have := (List.getElem?_eq_some_iff.1 hx).1
      simp at this; omega
    subst this
    simp at hx
    subst hx
    exact keyN_ne hne

section
variable {w : World} {s : Nat} {y : Lay} {n room : Nat} {off : Bool} {L : List Bdd.Nd} {K C : List Nat} {sl : Nat → Option Nat}

set_option maxHeartbeats 4000000 in
theorem mk_store (h : StoreAt w s y n room off L K C sl) (lv lo hi : Nat) (hl : lv < n) (hlo : Bdd.IsNd (Bdd.tab L) lo) (hhi : Bdd.IsNd (Bdd.tab L) hi) (llo : lv < Bdd.lev n (Bdd.tab L) lo) (lhi : lv < Bdd.lev n (Bdd.tab L) hi) :
    Calls Tryz.prog 119 #[.pointer (some ⟨s, 0, none⟩), .int .i64 (lv : Int), .int .u32 (lo : Int), .int .u32 (hi : Int)] w
      (OpPost s n room off (y.blocks s) L w (mkc lv) (MkIs n lv lo hi L)) := by
  have hn := h.vars.2
  have hlen := h.len
  have hrm := h.rooms.2
  have bl := Bdd.isNd_tab.1 hlo
  have bh := Bdd.isNd_tab.1 hhi
  go_enter Tryz.func119, Tryz.ntmps119
  go_wp2_with fail
  refine (vars_any h).mono ?_
  rintro e w1 ⟨rfl, rfl⟩
  go_wp2_with fail
  refine (isNd_is h hlo).mono ?_
  rintro e w1 ⟨rfl, rfl⟩
  go_wp2_with fail
  refine (isNd_is h hhi).mono ?_
  rintro e w1 ⟨rfl, rfl⟩
  go_wp2_with fail
  refine (level_any h hlo).mono ?_
  rintro e w1 ⟨rfl, rfl⟩
  go_wp2_with fail
  refine (level_any h hhi).mono ?_
  rintro e w1 ⟨rfl, rfl⟩
  by_cases e : lo = hi
  · have t1 : ((lo : Int) == (hi : Int)) = true := by rw [e]; simp
    have hfin : OpPost s n room off (y.blocks s) L w (mkc lv) (MkIs n lv lo hi L) (ansH lo 0) w :=
      ⟨_, L, (h.evo (Fr.refl [] w) (by simp)).mono (Nat.zero_le _), .inr ⟨lo, rfl, by subst e; exact mkIs_same hlo⟩⟩
    have HF := Lib.hid hfin
    clear hfin e
    go_wp2_with fail
    go_ret2
    exact HF.out
  · have t1 := ne_test e
    have HE := Lib.hid e
    clear e
    have hkey : Bdd.keyN ⟨lv, lo, hi⟩ ≠ 0 := keyN_ne HE.out
    go_wp2_with fail
    refine (key_any lv lo hi _ (by omega) (by omega) (by omega)).mono ?_
    rintro e w1 ⟨rfl, rfl⟩
    go_wp2_with fail
    refine (has_any h _ hkey).mono ?_
    rintro e w1 ⟨h1, hF1, hr⟩
    have E1 := Lib.hid (h1.evo hF1 (fun k hk => by simp only [List.mem_singleton] at hk; subst hk; exact StoreAt.memOf 3 rfl))
    have F1 := Lib.hid hF1
    clear hF1
    rcases hr with ⟨i, d, hd, hkd, rfl⟩ | ⟨hno, rfl⟩
    · have hdd : d = ⟨lv, lo, hi⟩ := by
        have ht : Bdd.tab L (i + 2) = some d := by rw [Bdd.tab_two]; exact hd
        have a1 := Bdd.isNd_tab.1 (h.wf.lo ht)
        have a2 := Bdd.isNd_tab.1 (h.wf.hi ht)
        refine Bdd.keyN_inj ?_ ?_ ?_ ?_ hkd
        · omega
        · omega
        · show lo < 2 ^ 28; omega
        · show hi < 2 ^ 28; omega
      have hfin : OpPost s n room off (y.blocks s) L w (mkc lv) (MkIs n lv lo hi L) (ansH (i + 2) 0) w1 :=
        ⟨_, L, E1.out.mono (Nat.zero_le _), .inr ⟨i + 2, rfl, by subst hdd; exact mkIs_node h.wf (Bdd.Gr.refl h.wf) hlo hhi hd⟩⟩
      have HF := Lib.hid hfin
      clear hfin hd hkd hdd
      go_wp2_with fail
      go_ret2
      exact HF.out
    · have HNO := Lib.hid hno
      clear hno
      have c0 := h1.head.cell 0 (v := .int .i64 (room : Int)) rfl
      have c4 := h1.head.cell 4 (v := .pointer (some ⟨y.tab, 0, none⟩)) rfl
      by_cases hfull : L.length < room
      · have hw1 : IntKind.i64.wrap ((L.length : Int) + 1) = (L.length : Int) + 1 := IntWalk.i64_in _ (by omega)
        have hw2 : IntKind.i64.wrap (2 * ((L.length : Int) + 1)) = 2 * ((L.length : Int) + 1) := IntWalk.i64_in _ (by omega)
        have hbig := h1.big
        go_wp2_with fail
        go_quiet ((go_at_call 84; exact Calls.quiet_of (slen_any (h1.drewN _))))
        have hA := h1.drewN nq
        have FA := (Fr.refl [] w1).drewN nq
        generalize w1.drewN nq = wA at hA FA ⊢
        have d4 := hA.head.cell 4 (v := .pointer (some ⟨y.tab, 0, none⟩)) rfl
        go_wp2_with fail
        go_quiet (first | (go_at_call 84; exact Calls.quiet_of (slen_any (hA.drewN _))) | (go_at_call 175; exact Calls.quiet_of_same ((slots_any _ _ _ _ _ (hA.drewN _).table).mono fun e w' ⟨q1, q2⟩ => ⟨q1, q2.symm⟩)))
        have hB := hA.drewN nq
        have FB := FA.drewN nq
        generalize wA.drewN nq = wB at hB FB ⊢
        have b4 := hB.head.cell 4 (v := .pointer (some ⟨y.tab, 0, none⟩)) rfl
        by_cases hgr : K.length < 2 * (L.length + 1)
        · have hyy := h1
          go_wp2_with fail
          refine (slots_any _ _ _ _ _ hB.table).mono ?_
          rintro e w2 ⟨rfl, rfl⟩
          go_wp2_with fail
          refine (grow_store hB hfull hgr).mono ?_
          rintro e w3 ⟨rfl, y3, K3, sl3, h3, hK3, hnv3, hF3, hown3⟩
          have hhalf := hB.half
          have hK1 := hB.table.2.2.2.2.1
          have hlt3 : L.length < K3.length := by omega
          have hfit3 : 2 * (L.length + 1) ≤ K3.length := by omega

          have hown0 : ∀ k, y3.nv.ownBlock = some k → s ≠ k := fun k hk => h3.ownNe hk 0 (by omega) rfl
          go_wp2_with fail
          refine (handle_any s L.length (nodeCells L) _ _ y3.nv _ _ _ _ _ (by exact h3.head) (by exact h3.nodes) (by omega) hown0).mono ?_
          rintro e w4 ⟨rfl, g, cap, hB4, hown4, hF4, hg4, hgl4⟩
          obtain ⟨n0, n1, n2, n3⟩ := cells_new hown4
          have z0 := hown4.frozenAt (L.length * 4)
          have z1 := hown4.frozenAt (L.length * 4 + 1)
          have z2 := hown4.frozenAt (L.length * 4 + 2)
          have z3 := hown4.frozenAt (L.length * 4 + 3)
          have b2 := hB4.cell 2 (v := .slice (some ⟨g, 0, none⟩) (L.length + 1) cap) rfl
          have hgs : ¬ g = s := by
            rcases hg4 with e | e
            · exact (hown0 g e).symm
            · have := h3.head.lt
              have e' : _ ≤ g := e
              exact fun e2 => Nat.lt_irrefl s (Nat.lt_of_lt_of_le this (e2 ▸ e'))
          have hsg : ¬ s = g := fun e => hgs e.symm
          obtain ⟨hB5, hT5, hM5, hown5, hF5, hgl5⟩ := tail_ready (d := ⟨lv, lo, hi⟩) h3 hB4 hown4 hF4 hg4 hgl4 hgs
          have q4 := hB5.cell 4 (v := .pointer (some ⟨y3.tab, 0, none⟩)) rfl
          have q5 := hB5.cell 5 (v := .map (some y3.slo)) rfl
          have HQ4 := Lib.hid q4
          have HQ5 := Lib.hid q5
          clear q4 q5
          go_wp2_with fail
          obtain ⟨a1, a2, a3⟩ := lays_asks (d := ⟨lv, lo, hi⟩) h.wf HE.out HNO.out
          refine (lays_any s y3.tab y3.tm y3.tc y3.slo L.length K3 sl3 (L ++ [⟨lv, lo, hi⟩]) ⟨lv, lo, hi⟩ (laidW w4 g L.length lv lo hi) HQ4.out HQ5.out hT5 hM5 (h3.tinv.push _) a1 a2 a3 hlt3 (by show lv < 256; omega) (by show lo < 65540; omega) (by show hi < 65540; omega)
            ⟨h3.sep 0 3 rfl rfl (by omega), h3.sep 0 4 rfl rfl (by omega)⟩ ⟨h3.sep 5 3 rfl rfl (by omega), h3.sep 5 4 rfl rfl (by omega), h3.sep 5 2 rfl rfl (by omega)⟩).mono ?_
          rintro e w6 ⟨rfl, K6, sl6, hK6, hT6, hM6, hI6, hF6⟩
          obtain ⟨B6, L6, hev, hmk⟩ := tail_done (d := ⟨lv, lo, hi⟩) h3 hfull hfit3 hl hlo hhi llo lhi HE.out HNO.out hB5 hown5 hF5 hg4 hgl5 hT6 hM6 hK6 hI6 hF6
          have hEv : Evo s n room off (y.blocks s) L w B6 L6 w6 (mkc lv) := (((E1.out.trans (hB.evo FB (by simp))).trans ⟨h3.sto, hF3.mono (fun k hk => .inl (by simp only [List.mem_singleton] at hk; subst hk; exact StoreAt.memOf 0 rfl)), hown3, Bdd.Gr.refl h3.wf⟩).trans hev).mono (by show _ + mkc lv ≤ mkc lv; omega)
          have hfin : OpPost s n room off (y.blocks s) L w (mkc lv) (MkIs n lv lo hi L) (.returned (.tuple #[.int .u32 ((L.length : Int) + 2), .int .i64 0])) w6 :=
            ⟨B6, L6, hEv, .inr ⟨L.length + 2, by simp, hmk⟩⟩
          have HF := Lib.hid hfin
          clear hfin hmk hev hEv hI6 hM6 hT6 hF6 hF5 hown5 hT5 hM5
          go_wp2_with fail
          go_ret2
          exact HF.out

        · have hlt3 : L.length < K.length := by omega
          have hfit3 : 2 * (L.length + 1) ≤ K.length := by omega

          have hown0 : ∀ k, y.nv.ownBlock = some k → s ≠ k := fun k hk => hB.ownNe hk 0 (by omega) rfl
          go_wp2_with fail
          refine (handle_any s L.length (nodeCells L) _ _ y.nv _ _ _ _ _ (by exact hB.head) (by exact hB.nodes) (by omega) hown0).mono ?_
          rintro e w4 ⟨rfl, g, cap, hB4, hown4, hF4, hg4, hgl4⟩
          obtain ⟨n0, n1, n2, n3⟩ := cells_new hown4
          have z0 := hown4.frozenAt (L.length * 4)
          have z1 := hown4.frozenAt (L.length * 4 + 1)
          have z2 := hown4.frozenAt (L.length * 4 + 2)
          have z3 := hown4.frozenAt (L.length * 4 + 3)
          have b2 := hB4.cell 2 (v := .slice (some ⟨g, 0, none⟩) (L.length + 1) cap) rfl
          have hgs : ¬ g = s := by
            rcases hg4 with e | e
            · exact (hown0 g e).symm
            · have := hB.head.lt
              have e' : _ ≤ g := e
              exact fun e2 => Nat.lt_irrefl s (Nat.lt_of_lt_of_le this (e2 ▸ e'))
          have hsg : ¬ s = g := fun e => hgs e.symm
          obtain ⟨hB5, hT5, hM5, hown5, hF5, hgl5⟩ := tail_ready (d := ⟨lv, lo, hi⟩) hB hB4 hown4 hF4 hg4 hgl4 hgs
          have q4 := hB5.cell 4 (v := .pointer (some ⟨y.tab, 0, none⟩)) rfl
          have q5 := hB5.cell 5 (v := .map (some y.slo)) rfl
          have HQ4 := Lib.hid q4
          have HQ5 := Lib.hid q5
          clear q4 q5
          go_wp2_with fail
          obtain ⟨a1, a2, a3⟩ := lays_asks (d := ⟨lv, lo, hi⟩) h.wf HE.out HNO.out
          refine (lays_any s y.tab y.tm y.tc y.slo L.length K sl (L ++ [⟨lv, lo, hi⟩]) ⟨lv, lo, hi⟩ (laidW w4 g L.length lv lo hi) HQ4.out HQ5.out hT5 hM5 (hB.tinv.push _) a1 a2 a3 hlt3 (by show lv < 256; omega) (by show lo < 65540; omega) (by show hi < 65540; omega)
            ⟨hB.sep 0 3 rfl rfl (by omega), hB.sep 0 4 rfl rfl (by omega)⟩ ⟨hB.sep 5 3 rfl rfl (by omega), hB.sep 5 4 rfl rfl (by omega), hB.sep 5 2 rfl rfl (by omega)⟩).mono ?_
          rintro e w6 ⟨rfl, K6, sl6, hK6, hT6, hM6, hI6, hF6⟩
          obtain ⟨B6, L6, hev, hmk⟩ := tail_done (d := ⟨lv, lo, hi⟩) hB hfull hfit3 hl hlo hhi llo lhi HE.out HNO.out hB5 hown5 hF5 hg4 hgl5 hT6 hM6 hK6 hI6 hF6
          have hEv : Evo s n room off (y.blocks s) L w B6 L6 w6 (mkc lv) := ((E1.out.trans (hB.evo FB (by simp))).trans hev).mono (by show _ + mkc lv ≤ mkc lv; omega)
          have hfin : OpPost s n room off (y.blocks s) L w (mkc lv) (MkIs n lv lo hi L) (.returned (.tuple #[.int .u32 ((L.length : Int) + 2), .int .i64 0])) w6 :=
            ⟨B6, L6, hEv, .inr ⟨L.length + 2, by simp, hmk⟩⟩
          have HF := Lib.hid hfin
          clear hfin hmk hev hEv hI6 hM6 hT6 hF6 hF5 hown5 hT5 hM5
          go_wp2_with fail
          go_ret2
          exact HF.out

      · have hrl : room ≤ L.length := by omega
        go_wp2_with fail
        go_quiet ((go_at_call 84; exact Calls.quiet_of (slen_any (h1.drewN _))))
        have hA := h1.drewN nq
        have FA := (Fr.refl [] w1).drewN nq
        generalize w1.drewN nq = wA at hA FA ⊢
        have hfin : OpPost s n room off (y.blocks s) L w (mkc lv) (MkIs n lv lo hi L) (ansH 0 60) wA :=
          ⟨_, L, (E1.out.trans (hA.evo FA (by simp))).mono (Nat.zero_le _), .inl ⟨rfl, hrl⟩⟩
        have HF := Lib.hid hfin
        clear hfin
        go_wp2_with fail
        go_ret2
        exact HF.out
end

end Go.Proofs.YtiojnjihbidbiaaGreat
/- Words on a store whose parts nobody asks for: its functions' contracts, each over 'Sto'. -/
namespace Go.Proofs.YtiojnjihbidbiaaGreat
open Go.RowKit
attribute [local go_sem ↓] Go.wp_at_zero Go.wp_at_succ
set_option linter.unusedVariables false

section
variable {w w' : World} {s n room : Nat} {off : Bool} {B : List Nat} {L : List Bdd.Nd}

theorem Sto.gr (h : Sto w s B n room off L) : Bdd.Gr n L L 0 := Bdd.Gr.refl h.wf

theorem sto_vars (h : Sto w s B n room off L) :
    Calls Tryz.prog 118 #[.pointer (some ⟨s, 0, none⟩)] w fun e w' => e = .returned (.int .i64 (n : Int)) ∧ w = w' := by
  obtain ⟨y, K, C, sl, rfl, hs⟩ := h; exact vars_any hs

theorem sto_is (h : Sto w s B n room off L) (hd : Int) (h0 : 0 ≤ hd) (h1 : hd < 4294967296) :
    Calls Tryz.prog 31 #[.pointer (some ⟨s, 0, none⟩), .int .u32 hd] w fun e w' => e = .returned (.bool (decide (hd < (L.length : Int) + 2))) ∧ w = w' := by
  obtain ⟨y, K, C, sl, rfl, hs⟩ := h; exact is_any hs hd h0 h1

theorem sto_isNd (h : Sto w s B n room off L) {k : Nat} (hk : Bdd.IsNd (Bdd.tab L) k) :
    Calls Tryz.prog 31 #[.pointer (some ⟨s, 0, none⟩), .int .u32 (k : Int)] w fun e w' => e = .returned (.bool true) ∧ w = w' := by
  obtain ⟨y, K, C, sl, rfl, hs⟩ := h; exact isNd_is hs hk

theorem sto_level (h : Sto w s B n room off L) {k : Nat} (hk : Bdd.IsNd (Bdd.tab L) k) :
    Calls Tryz.prog 126 #[.pointer (some ⟨s, 0, none⟩), .int .u32 (k : Int)] w fun e w' => e = .returned (.int .i64 (Bdd.lev n (Bdd.tab L) k : Nat)) ∧ w = w' := by
  obtain ⟨y, K, C, sl, rfl, hs⟩ := h; exact level_any hs hk

theorem sto_low (h : Sto w s B n room off L) {k : Nat} {d : Bdd.Nd} (hd : Bdd.tab L k = some d) :
    Calls Tryz.prog 127 #[.pointer (some ⟨s, 0, none⟩), .int .u32 (k : Int)] w fun e w' => e = .returned (.int .u32 (d.lo : Int)) ∧ w = w' := by
  obtain ⟨y, K, C, sl, rfl, hs⟩ := h; exact low_any hs hd

theorem sto_high (h : Sto w s B n room off L) {k : Nat} {d : Bdd.Nd} (hd : Bdd.tab L k = some d) :
    Calls Tryz.prog 128 #[.pointer (some ⟨s, 0, none⟩), .int .u32 (k : Int)] w fun e w' => e = .returned (.int .u32 (d.hi : Int)) ∧ w = w' := by
  obtain ⟨y, K, C, sl, rfl, hs⟩ := h; exact high_any hs hd

theorem sto_mk (h : Sto w s B n room off L) (lv lo hi : Nat) (hl : lv < n) (hlo : Bdd.IsNd (Bdd.tab L) lo) (hhi : Bdd.IsNd (Bdd.tab L) hi) (llo : lv < Bdd.lev n (Bdd.tab L) lo) (lhi : lv < Bdd.lev n (Bdd.tab L) hi) :
    Calls Tryz.prog 119 #[.pointer (some ⟨s, 0, none⟩), .int .i64 (lv : Int), .int .u32 (lo : Int), .int .u32 (hi : Int)] w
      (OpPost s n room off B L w (mkc lv) (MkIs n lv lo hi L)) := by
  obtain ⟨y, K, C, sl, rfl, hs⟩ := h; exact mk_store hs lv lo hi hl hlo hhi llo lhi

theorem Sto.evo (h : Sto w' s B n room off L) {O : List Nat} (hF : Fr O w w') (hO : ∀ k ∈ O, k ∈ B ∨ w.heap.size ≤ k) : Evo s n room off B L w B L w' 0 :=
  ⟨h, hF.mono hO, fun _ hk => .inl hk, h.gr⟩

theorem Sto.nd_lt (h : Sto w s B n room off L) {k : Nat} (hk : Bdd.IsNd (Bdd.tab L) k) : k < 32770 := by
  have := Bdd.isNd_tab.1 hk
  have := h.len
  omega

theorem StoreAt.cached {O : List Nat} {y : Lay} {K C C' : List Nat} {sl : Nat → Option Nat} (h : StoreAt w s y n room off L K C sl) (f : Fr O w w') (hO : ∀ k ∈ O, k = y.cm ∨ k = y.cc) (hT : CacheAt w' y.cac y.cm y.cc C') (hI : Bdd.CacheInv n L 256 C') (hV : ∀ l, l < 256 → K0 C' (3 * l) < 2 ^ 64) :
    StoreAt w' s y n room off L K C' sl := by
  have key : ∀ k, k ≠ y.cm → k ≠ y.cc → k ∉ O := fun k h1 h2 hk => (hO k hk).elim h1 h2
  have K1 : ∀ i k, (y.blocks s)[i]? = some k → i ≠ 7 → i ≠ 8 → k ∉ O := fun i k hi h3 h4 => key k (nodup_get h.apart hi (j := 7) rfl h3) (nodup_get h.apart hi (j := 8) rfl h4)
  have own : ∀ k, y.nv.ownBlock = some k → k ∉ O := fun k hk => K1 9 k (by simp [Lay.blocks, hk]) (by omega) (by omega)
  exact ⟨h.head.fr f (K1 0 _ rfl (by omega) (by omega)), h.ord.fr f (K1 1 _ rfl (by omega) (by omega)), h.nodes.fr f own, h.table.fr f (K1 2 _ rfl (by omega) (by omega)) (K1 3 _ rfl (by omega) (by omega)) (K1 4 _ rfl (by omega) (by omega)),
    h.slots.fr f (K1 5 _ rfl (by omega) (by omega)), hT, h.apart,
    fun k hk => by have := h.inside k hk; have := f.size; omega, h.vars, h.rooms, h.len, h.half, h.big, h.wf, h.tinv, hI, hV⟩

/-- What 'Recall' answers. -/
def RecPost (s n room : Nat) (off : Bool) (B : List Nat) (L : List Bdd.Nd) (w : World) (op a b c : Nat) (e : Ending) (w' : World) : Prop :=
  Evo s n room off B L w B L w' 0 ∧ (e = .returned (.tuple #[.int .u32 0, .bool false]) ∨ ∃ v : Nat, e = .returned (.tuple #[.int .u32 (v : Int), .bool true]) ∧ Bdd.Is n (Bdd.tab L) op a b c v)

theorem sto_recall (h : Sto w s B n room off L) {op a b c : Nat} (ho : op < 256) (ha : Bdd.IsNd (Bdd.tab L) a) (hb : Bdd.IsNd (Bdd.tab L) b) (hc : Bdd.IsNd (Bdd.tab L) c) :
    Calls Tryz.prog 209 #[.pointer (some ⟨s, 0, none⟩), .int .u8 (op : Int), .int .u8 0, .int .u32 (a : Int), .int .u32 (b : Int), .int .u32 (c : Int)] w (RecPost s n room off B L w op a b c) := by
  have la := h.nd_lt ha
  have lb := h.nd_lt hb
  have lc := h.nd_lt hc
  obtain ⟨y, K, C, sl, rfl, hs⟩ := h
  have hL : L.length ≤ 32768 := Nat.le_trans hs.len hs.rooms.2
  cases off with
  | true =>
    refine (recall_off s _ _ _ _ _ w (hs.head.cell 7 rfl)).mono ?_
    rintro e w' ⟨rfl, rfl⟩
    exact ⟨hs.evo (Fr.refl [] w) (by simp), .inl rfl⟩
  | false =>
    have hk := homeF_lt (show 0 < 256 by omega) (Bdd.wordN op 0 a b c)
    have ent : K0 C (3 * homeF 256 (Bdd.wordN op 0 a b c)) % 4 = 2 → K0 C (3 * homeF 256 (Bdd.wordN op 0 a b c) + 1) = Bdd.wordN op 0 a b c → Bdd.Is n (Bdd.tab L) op a b c (K0 C (3 * homeF 256 (Bdd.wordN op 0 a b c) + 2)) := fun e1 e2 => by
      have := hs.cinv.true_ _ hk e1
      rw [show C.getD (3 * homeF 256 (Bdd.wordN op 0 a b c) + 1) 0 = Bdd.wordN op 0 a b c from e2] at this
      exact this.is hL ha hb hc
    have hr := recall_on s y.cac y.cm y.cc C op 0 a b c w (hs.head.cell 7 rfl) (hs.head.cell 6 rfl) hs.cache ho (by omega) (by omega) (by omega) (by omega) (hs.vers _ hk) (fun e1 e2 => by
      have := Bdd.isNd_tab.1 (ent e1 e2).1
      omega)
    refine hr.mono ?_
    rintro e w' ⟨hC, hF, hr⟩
    have hO : ∀ k ∈ [y.cm], k = y.cm ∨ k = y.cc := fun k hk => by simp only [List.mem_singleton] at hk; exact .inl hk
    refine ⟨(hs.cached hF hO hC hs.cinv hs.vers).evo hF (fun k hk => by simp only [List.mem_singleton] at hk; subst hk; exact StoreAt.memOf 7 rfl), ?_⟩
    rcases hr with hr | ⟨hr, e1, e2⟩
    · exact .inl hr
    · exact .inr ⟨_, hr, ent e1 e2⟩

theorem sto_note (h : Sto w s B n room off L) {op a b c v : Nat} (ho : op = 2 ∨ op = 3 ∨ op = 4 ∨ op = 5) (ha : Bdd.IsNd (Bdd.tab L) a) (hb : Bdd.IsNd (Bdd.tab L) b) (hc : Bdd.IsNd (Bdd.tab L) c) (hv : Bdd.Is n (Bdd.tab L) op a b c v) :
    Calls Tryz.prog 211 #[.pointer (some ⟨s, 0, none⟩), .int .u8 (op : Int), .int .u8 0, .int .u32 (a : Int), .int .u32 (b : Int), .int .u32 (c : Int), .int .u32 (v : Int)] w fun e w' => e = .returned (.tuple #[]) ∧ Evo s n room off B L w B L w' 0 := by
  have la := h.nd_lt ha
  have lb := h.nd_lt hb
  have lc := h.nd_lt hc
  have lv := h.nd_lt hv.1
  obtain ⟨y, K, C, sl, rfl, hs⟩ := h
  cases off with
  | true =>
    refine (note_off s _ _ _ _ _ _ w (hs.head.cell 7 rfl)).mono ?_
    rintro e w' ⟨rfl, rfl⟩
    exact ⟨rfl, hs.evo (Fr.refl [] w) (by simp)⟩
  | false =>
    have hk := homeF_lt (show 0 < 256 by omega) (Bdd.wordN op 0 a b c)
    have hev := hs.cinv.even _ hk
    have hr := note_on s y.cac y.cm y.cc C op 0 a b c v w (hs.head.cell 7 rfl) (hs.head.cell 6 rfl) hs.cache (by omega) (by omega) (by omega) (by omega) (by omega) (by omega) (hs.vers _ hk) hev
    refine hr.mono ?_
    rintro e w' ⟨rfl, hC, hF⟩
    have hO : ∀ k ∈ [y.cm, y.cc], k = y.cm ∨ k = y.cc := fun k hk => by simpa using hk
    have hlen := hs.cinv.len
    have hvm := verF_mod (K0 C (3 * homeF 256 (Bdd.wordN op 0 a b c))) hev
    generalize homeF 256 (Bdd.wordN op 0 a b c) = l at *
    have hput := hs.cinv.put hk hvm.1 (k := Bdd.wordN op 0 a b c) (v := v) ⟨op, a, b, c, ho, rfl, ha, hb, hc, hv⟩
    rw [noted_eq (by omega)] at hC
    have hvers : ∀ l', l' < 256 → K0 (Bdd.putLine C l (verF (K0 C (3 * l))) (Bdd.wordN op 0 a b c) v) (3 * l') < 2 ^ 64 := fun l' hl' => by
      unfold Bdd.putLine
      rw [K0_set _ _ _ _ (by simp; omega)]
      split
      · exact hvm.2
      · rw [K0_set _ _ _ _ (by simp; omega), if_neg (by omega), K0_set _ _ _ _ (by omega), if_neg (by omega)]; exact hs.vers l' hl'
    refine ⟨rfl, (hs.cached hF hO hC hput hvers).evo hF (fun k hk => ?_)⟩
    rcases hO k hk with e | e
    · subst e; exact StoreAt.memOf 7 rfl
    · subst e; exact StoreAt.memOf 8 rfl

end
end Go.Proofs.YtiojnjihbidbiaaGreat

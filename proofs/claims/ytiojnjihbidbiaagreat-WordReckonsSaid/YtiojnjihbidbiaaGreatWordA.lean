/- word, walked: a number as a word. -/
import Derived.Test.YtiojnjihbidbiaaGreatBaseG
namespace Go.Proofs.YtiojnjihbidbiaaGreat
open Go.RowKit
attribute [local go_sem ↓] Go.wp_at_zero Go.wp_at_succ
attribute [local go_sem ↓] run_min run_max
set_option linter.unusedVariables false

theorem Tryz.info_handle : (Tryz.prog.info? 28).map (fun i => (i.zero, i.size, i.bytes)) = some (some (.int .u32 0), 1, 4) := by kernel_rfl

/-- A slice of handles. -/
def HsAt (w : World) (v : Value) (hs : List Nat) : Prop := w.ownsRow 0 28 1 v hs.length (hs.map fun (h : Nat) => Value.int .u32 (h : Int))

theorem HsAt.nil (w : World) : HsAt w (.slice none 0 0) [] := ⟨rfl, .inl ⟨rfl, rfl⟩⟩
theorem HsAt.fr {O : List Nat} {w w' : World} {v : Value} {hs : List Nat} (h : HsAt w v hs) (f : Fr O w w') (hb : ∀ k, v.ownBlock = some k → k ∉ O) : HsAt w' v hs := by
  obtain ⟨h1, h2⟩ := h
  refine ⟨h1, ?_⟩
  rcases h2 with h2 | ⟨g, cap, cur, rfl, hb0, hg, r⟩
  · exact .inl h2
  · refine .inr ⟨g, cap, cur, rfl, hb0, ?_, r⟩
    rw [f.block g (Array.getElem?_eq_some_iff.1 hg).1 (hb g rfl)]; exact hg
theorem HsAt.shape {w : World} {v : Value} {hs : List Nat} (h : HsAt w v hs) : ∃ a cap, v = .slice a hs.length cap ∧ hs.length ≤ cap := by
  obtain ⟨_, h⟩ := h
  rcases h with ⟨rfl, h0⟩ | ⟨g, cap, cur, rfl, _, hg, hc, hm, hs, ht⟩
  · exact ⟨none, 0, by rw [h0], by omega⟩
  · exact ⟨_, _, rfl, hc⟩
theorem HsAt.lt {w : World} {v : Value} {hs : List Nat} (h : HsAt w v hs) {k : Nat} (hk : v.ownBlock = some k) : k < w.heap.size := by
  obtain ⟨_, h⟩ := h
  rcases h with ⟨rfl, h0⟩ | ⟨g, cap, cur, rfl, _, hg, _⟩
  · cases hk
  · obtain rfl : g = k := by simpa [Value.ownBlock] using hk
    exact (Array.getElem?_eq_some_iff.1 hg).1
theorem HsAt.get {w : World} {v : Value} {hs : List Nat} (h : HsAt w v hs) {i x : Nat} (hx : hs[i]? = some x) : ∃ g cap, v = .slice (some ⟨g, 0, none⟩) hs.length cap ∧ w.cell? ⟨g, i, none⟩ = some (.int .u32 (x : Int)) := by
  have hi := (List.getElem?_eq_some_iff.1 hx).1
  obtain ⟨hl, h⟩ := h
  rcases h with ⟨_, h0⟩ | ⟨g, cap, cur, rfl, hb, hg, hc, hm, hs', ht⟩
  · omega
  · refine ⟨g, cap, rfl, ?_⟩
    have := World.ownsRow.cellAt (w := w) (base := 0) (e := 28) (size := 1) (n := hs.length) (xs := hs.map fun (h : Nat) => Value.int .u32 (h : Int)) (g := g) (cap := cap) ⟨hl, .inr ⟨g, cap, cur, rfl, hb, hg, hc, hm, hs', ht⟩⟩ i (by omega)
    rw [this, List.getElem?_map, hx]; rfl

theorem bit_u8 (n j : Nat) (hn : n < 256) : bits BinOp.and IntKind.u8 ((n : Int) / 2 ^ j) 1 = ((n / 2 ^ j % 2 : Nat) : Int) := by
  have e : (n : Int) / 2 ^ j = ((n / 2 ^ j : Nat) : Int) := by simp
  have h : n / 2 ^ j < 256 := Nat.lt_of_le_of_lt (Nat.div_le_self _ _) hn
  rw [e, show (1 : Int) = ((1 : Nat) : Int) from rfl, u8_and_nat _ _ h (by omega), Nat.and_one_is_mod]

def constL (n k : Nat) : List Nat := (List.range k).map fun i => n / 2 ^ i % 2
theorem constL_len (n k : Nat) : (constL n k).length = k := by simp [constL]
theorem constL_succ (n k : Nat) : constL n (k + 1) = constL n k ++ [n / 2 ^ k % 2] := by simp [constL, List.range_succ]

def OutRel (hs : List Nat) (w : World) (v : Value) (wr : World) : Prop := HsAt wr v hs ∧ Fr [] w wr ∧ ∀ k, v.ownBlock = some k → w.heap.size ≤ k

theorem OutRel.start (w : World) : OutRel [] w (.slice none 0 0) w := ⟨HsAt.nil w, Fr.refl [] w, fun k hk => by cases hk⟩

/-- One handle more. -/
theorem OutRel.push {hs hs' : List Nat} {b g cap m : Nat} {w wr w1 : World} {v : Value} {o : Obj} (e : hs' = hs ++ [b]) (hm : hs.length = m) (hH : HsAt wr v hs) (hF : Fr [] w wr) (hO : ∀ k, v.ownBlock = some k → w.heap.size ≤ k)
    (hown : w1.ownsRow 0 28 1 (.slice (some ⟨g, 0, none⟩) (m + 1) cap) (m + 1) (hs.map (fun (h : Nat) => Value.int .u32 (h : Int)) ++ [.int .u32 (b : Int)])) (hg : (wr.alloc o).grownBy w1 v.ownBlock) (hat : v.ownBlock = some g ∨ g = wr.heap.size + 1) :
    OutRel hs' w (.slice (some ⟨g, 0, none⟩) (m + 1) cap) w1 := by
  subst e
  subst hm
  have s1 := hF.size
  refine ⟨?_, (hF.alloc o).grown hg (fun k hk => .inr (hO k hk)), fun k hk => ?_⟩
  · unfold HsAt
    rw [List.length_append, List.map_append]
    exact hown
  · simp only [Value.ownBlock, Option.some.injEq] at hk
    subst hk
    rcases hat with h | h
    · exact hO _ h
    · omega

set_option maxHeartbeats 1000000 in
set_option maxRecDepth 4000 in
theorem const_any (n k : Nat) (w : World) (hn : n < 256) (k1 : 1 ≤ k) (k8 : k ≤ 8) :
    Calls Tryz.prog 28 #[.int .u8 (n : Int), .int .i64 (k : Int)] w fun e w' => ∃ v, e = .returned v ∧ OutRel (constL n k) w v w' := by
  obtain ⟨i0, hi, hz0, hz1, hz2⟩ := info_parts Tryz.info_handle
  have m1 : ∀ (w : World) (ts : Array TypeId) (t : TypeId), (Builtin.max_ ts t #[.int .i64 (k : Int), .int .i64 1]).run Tryz.prog w = .ok (.int .i64 (k : Int)) w := fun w ts t => by
    rw [show (1 : Int) = ((1 : Nat) : Int) from rfl, run_max, Nat.max_eq_left k1]
  have m2 : ∀ (w : World) (ts : Array TypeId) (t : TypeId), (Builtin.min_ ts t #[.int .i64 (k : Int), .int .i64 8]).run Tryz.prog w = .ok (.int .i64 (k : Int)) w := fun w ts t => by
    rw [show (8 : Int) = ((8 : Nat) : Int) from rfl, run_min, Nat.min_eq_left k8]
  have n1 : ¬ (k : Int) < 1 := by omega
  have n8 : ¬ (8 : Int) < (k : Int) := by omega
  go_enter Tryz.func28, Tryz.ntmps28
  go_wp2_with fail
  go_loopg [5, 10] k (fun kk v i wr => ∃ j : Nat, j ≤ k ∧ kk = k - j ∧ i = .int .i64 (j : Int) ∧ OutRel (constL n j) w v wr)
  case atStart => exact ⟨0, by omega, by omega, rfl, OutRel.start w⟩
  case round =>
    obtain ⟨j, hj, hk, rfl, hr⟩ := hrel
    by_cases hlt : j < k
    · obtain ⟨hH, hF, hO⟩ := hr
      have hlen := constL_len n j
      obtain ⟨b, hb⟩ : ∃ b, b = n / 2 ^ j % 2 := ⟨_, rfl⟩
      have hbit := bit_u8 n j hn
      rw [← hb] at hbit
      have hb2 : (b : Int) % 4294967296 = (b : Int) := by omega
      have hnx : constL n (j + 1) = constL n j ++ [b] := by rw [constL_succ, hb]
      have HNX := Lib.hid hnx
      have HH := Lib.hid hH
      have HFF := Lib.hid hF
      have HO := Lib.hid hO
      clear hnx hb hH hF hO
      generalize constL n j = hs at *
      go_wp2_with (at_builtin; go_loud (refine wpList_append_lies _ rfl _ _ _ rfl 0 28 i0 (.int .u32 0) 1 4 Tryz.underlying24 hi hz0 hz1 hz2 rfl (by omega) u5 hs.length _ rfl (HH.out.alloc _) ⟨wr.heap.size, 0, none⟩ 1 1 [.int .u32 (b : Int)] rfl rfl ?hnews ?h1 (by omega) ?h63 (by omega) (Nat.zero_le _) (wr.heap.size + 1) (by simp) ?_))
      case hnews =>
        intro i u hi
        have : i = 0 := by simpa using (List.getElem?_eq_some_iff.1 hi).1
        subst this
        simp only [List.getElem?_cons_zero, Option.some.injEq] at hi
        subst hi
        exact (Blk.new wr #[.int .u32 (b : Int)] 28).cell 0 rfl
      case h1 =>
        intro u hu
        simp only [List.mem_singleton] at hu
        subst hu; rfl
      case h63 => unfold maxLen; omega
      · intro g cap w1 hown1 hgrow hat hglt
        have hrel : OutRel (constL n (j + 1)) w (.slice (some ⟨g, 0, none⟩) (j + 1) cap) w1 := OutRel.push HNX.out hlen HH.out HFF.out HO.out hown1 hgrow hat
        have HREL := Lib.hid hrel
        clear hrel hown1 hgrow hat
        go_wp2
        go_roundg (k - (j + 1))
        case measure => omega
        case rel => exact ⟨j + 1, by omega, rfl, by go_num, HREL.out⟩
    · have e : j = k := by omega
      subst e
      have HR := Lib.hid hr
      clear hr
      go_wp2
      go_ret
      exact ⟨_, rfl, HR.out⟩
end Go.Proofs.YtiojnjihbidbiaaGreat
/- word, walked: variables as a word. -/
namespace Go.Proofs.YtiojnjihbidbiaaGreat
open Go.RowKit
attribute [local go_sem ↓] Go.wp_at_zero Go.wp_at_succ
attribute [local go_sem ↓] run_min run_max
set_option linter.unusedVariables false

theorem Tryz.info_int : (Tryz.prog.info? 3).map (fun i => (i.zero, i.size, i.bytes)) = some (some (.int .i64 0), 1, 8) := by kernel_rfl

/-- A slice of ints. -/
def IntsAt (w : World) (v : Value) (vs : List Nat) : Prop := w.ownsRow 0 3 1 v vs.length (vs.map fun (h : Nat) => Value.int .i64 (h : Int))

theorem row_fr {O : List Nat} {w w' : World} {t : TypeId} {sz n : Nat} {v : Value} {xs : List Value} (h : w.ownsRow 0 t sz v n xs) (f : Fr O w w') (hb : ∀ k, v.ownBlock = some k → k ∉ O) : w'.ownsRow 0 t sz v n xs := by
  obtain ⟨h1, h2⟩ := h
  refine ⟨h1, ?_⟩
  rcases h2 with h2 | ⟨g, cap, cur, rfl, hb0, hg, r⟩
  · exact .inl h2
  · refine .inr ⟨g, cap, cur, rfl, hb0, ?_, r⟩
    rw [f.block g (Array.getElem?_eq_some_iff.1 hg).1 (hb g rfl)]; exact hg
theorem row_shape {w : World} {t : TypeId} {sz n : Nat} {v : Value} {xs : List Value} (h : w.ownsRow 0 t sz v n xs) : ∃ a cap, v = .slice a n cap ∧ n ≤ cap := by
  obtain ⟨_, h⟩ := h
  rcases h with ⟨rfl, h0⟩ | ⟨g, cap, cur, rfl, _, hg, hc, hm, hs, ht⟩
  · exact ⟨none, 0, by rw [h0], by omega⟩
  · exact ⟨_, _, rfl, hc⟩
theorem row_lt {w : World} {t : TypeId} {sz n : Nat} {v : Value} {xs : List Value} (h : w.ownsRow 0 t sz v n xs) {k : Nat} (hk : v.ownBlock = some k) : k < w.heap.size := by
  obtain ⟨_, h⟩ := h
  rcases h with ⟨rfl, h0⟩ | ⟨g, cap, cur, rfl, _, hg, _⟩
  · cases hk
  · obtain rfl : g = k := by simpa [Value.ownBlock] using hk
    exact (Array.getElem?_eq_some_iff.1 hg).1
theorem row_get {w : World} {t : TypeId} {n : Nat} {v : Value} {xs : List Value} (h : w.ownsRow 0 t 1 v n xs) {i : Nat} {x : Value} (hx : xs[i]? = some x) : ∃ g cap, v = .slice (some ⟨g, 0, none⟩) n cap ∧ n ≤ cap ∧ w.cell? ⟨g, i, none⟩ = some x := by
  have hi := (List.getElem?_eq_some_iff.1 hx).1
  have h0 := h
  obtain ⟨hl, h⟩ := h
  rcases h with ⟨_, h0⟩ | ⟨g, cap, cur, rfl, hb, hg, hc, r⟩
  · omega
  · refine ⟨g, cap, rfl, hc, ?_⟩
    rw [h0.cellAt i (by omega), hx]

/-- A slice of n things laid out at once. -/
theorem row_lit {w : World} {t : TypeId} {g : Nat} {cs : Array Value} (h : Blk w g cs t) (hm : cs.size ≤ maxLen) : w.ownsRow 0 t 1 (.slice (some ⟨g, 0, none⟩) cs.size cs.size) cs.size cs.toList :=
  ⟨by simp, .inr ⟨g, cs.size, cs, rfl, Nat.zero_le _, h, Nat.le_refl _, hm, by simp, by simp [List.take_of_length_le]⟩⟩

/-- Words: what the handles of a list tell. -/
def DenL (n : Nat) (L : List Bdd.Nd) (hs : List Nat) (F : Nat → (Nat → Bool) → Bool) : Prop := ∀ (i h : Nat), hs[i]? = some h → Den n L h (F i)

theorem DenL.more {n c : Nat} {L L' : List Bdd.Nd} {hs : List Nat} {F : Nat → (Nat → Bool) → Bool} (d : DenL n L hs F) (hw : Bdd.Wf n (Bdd.tab L)) (g : Bdd.Gr n L L' c) : DenL n L' hs F := fun i h hh => (d i h hh).more hw g
theorem DenL.nil (n : Nat) (L : List Bdd.Nd) (F : Nat → (Nat → Bool) → Bool) : DenL n L [] F := fun i h hh => by simp at hh
theorem DenL.push {n : Nat} {L : List Bdd.Nd} {hs : List Nat} {F : Nat → (Nat → Bool) → Bool} {h m : Nat} (d : DenL n L hs F) (hm : hs.length = m) (e : Den n L h (F m)) : DenL n L (hs ++ [h]) F := fun i x hx => by
  rcases Nat.lt_or_ge i hs.length with hi | hi
  · rw [List.getElem?_append_left hi] at hx; exact d i x hx
  · have : i = hs.length := by have := (List.getElem?_eq_some_iff.1 hx).1; simp at this; omega
    subst this
    simp at hx
    subst hx; rw [hm]; exact e

/-- The store has gone on; a slice of handles has been made beside it. -/
structure WOut (s n room : Nat) (off : Bool) (B : List Nat) (L : List Bdd.Nd) (w : World) (B' : List Nat) (L' : List Bdd.Nd) (w' : World) (c : Nat) (v : Value) (hs : List Nat) : Prop where
  evo : Evo s n room off B L w B' L' w' c
  row : HsAt w' v hs
  own : ∀ k, v.ownBlock = some k → w.heap.size ≤ k ∧ k ∉ B'

section
variable {w w' : World} {s n room : Nat} {off : Bool} {B : List Nat} {L : List Bdd.Nd}

theorem WOut.start (h : Sto w s B n room off L) : WOut s n room off B L w B L w 0 (.slice none 0 0) [] := ⟨Evo.refl h, HsAt.nil w, fun k hk => by cases hk⟩

theorem WOut.step {B' B2 : List Nat} {L' L2 : List Bdd.Nd} {w2 : World} {c c2 : Nat} {v : Value} {hs : List Nat} (h : WOut s n room off B L w B' L' w' c v hs) (e : Evo s n room off B' L' w' B2 L2 w2 c2) : WOut s n room off B L w B2 L2 w2 (c + c2) v hs :=
  ⟨h.evo.trans e, h.row.fr e.fr (fun k hk => (h.own k hk).2), fun k hk => ⟨(h.own k hk).1, fun hb => by
    rcases e.own k hb with h1 | h1
    · exact (h.own k hk).2 h1
    · have := h.row.lt hk; omega⟩⟩

theorem WOut.push {B' : List Nat} {L' : List Bdd.Nd} {w1 : World} {c b g cap m : Nat} {v : Value} {hs : List Nat} {o : Obj} (h : WOut s n room off B L w B' L' w' c v hs) (hm : hs.length = m)
    (hown : w1.ownsRow 0 28 1 (.slice (some ⟨g, 0, none⟩) (m + 1) cap) (m + 1) (hs.map (fun (h : Nat) => Value.int .u32 (h : Int)) ++ [.int .u32 (b : Int)])) (hg : (w'.alloc o).grownBy w1 v.ownBlock) (hat : v.ownBlock = some g ∨ g = w'.heap.size + 1) :
    WOut s n room off B L w B' L' w1 c (.slice (some ⟨g, 0, none⟩) (m + 1) cap) (hs ++ [b]) := by
  subst hm
  have s1 := h.evo.fr.size
  have F : Fr v.ownBlock.toList w' w1 := ((Fr.refl _ w').alloc o).grown hg (fun k hk => .inl (by simp [hk]))
  have hBlt := h.evo.sto.mem.2
  have hsto : Sto w1 s B' n room off L' := h.evo.sto.fr F (fun k hk hm => by
    simp only [Option.mem_toList] at hm
    exact (h.own k hm).2 hk)
  refine ⟨⟨hsto, h.evo.fr.trans F (fun x hx => ?_), h.evo.own, h.evo.gr⟩, ?_, fun k hk => ?_⟩
  · simp only [Option.mem_toList] at hx
    exact .inr (h.own x hx).1
  · unfold HsAt; rw [List.length_append, List.map_append]; exact hown
  · simp only [Value.ownBlock, Option.some.injEq] at hk
    subst hk
    rcases hat with h1 | h1
    · exact h.own _ h1
    · exact ⟨by omega, fun hb => by have := hBlt _ hb; omega⟩

theorem long_any (l : Nat) (w : World) (h1 : 1 ≤ l) (h8 : l ≤ 8) :
    Calls Tryz.prog 155 #[.int .i64 (l : Int)] w fun e w' => e = .returned (.bool true) ∧ w = w' := by
  have e8 : decide ((l : Int) ≤ 8) = true := by simp; omega
  go_enter Tryz.func155, Tryz.ntmps155
  go_wp2
  go_ret
  exact ⟨rfl, rfl⟩
theorem long_not (l : Nat) (w : World) (h : l < 1 ∨ 8 < l) :
    Calls Tryz.prog 155 #[.int .i64 (l : Int)] w fun e w' => e = .returned (.bool false) ∧ w = w' := by
  go_enter Tryz.func155, Tryz.ntmps155
  rcases h with h | h
  · have e : l = 0 := by omega
    subst e
    go_wp2
    go_ret
    exact ⟨rfl, rfl⟩
  · have e1 : ¬ (l : Int) ≤ 8 := by omega
    have e2 : (1 : Int) ≤ l := by omega
    have e8 : decide ((l : Int) ≤ 8) = false := by simp; omega
    go_wp2
    go_ret
    exact ⟨rfl, rfl⟩

theorem intsAt_get {w : World} {v : Value} {vs : List Nat} (h : IntsAt w v vs) {i x : Nat} (hx : vs[i]? = some x) : ∃ g cap, v = .slice (some ⟨g, 0, none⟩) vs.length cap ∧ w.cell? ⟨g, i, none⟩ = some (.int .i64 (x : Int)) := by
  obtain ⟨g, cap, e, _, c⟩ := row_get h (i := i) (x := .int .i64 (x : Int)) (by rw [List.getElem?_map, hx]; rfl)
  exact ⟨g, cap, e, c⟩

set_option maxHeartbeats 2000000 in
set_option maxRecDepth 4000 in
theorem vars_any' (h : Sto w s B n room off L) {vv : Value} {vs : List Nat} (hI : IntsAt w vv vs) (hown : ∀ k, vv.ownBlock = some k → k ∉ B) (h1 : 1 ≤ vs.length) (h8 : vs.length ≤ 8) (hv : ∀ (i x : Nat), vs[i]? = some x → x < n) (hr : Bdd.high L + 31 * vs.length + 256 < room ∨ n ≤ 3 ∧ 256 < room) :
    Calls Tryz.prog 87 #[.pointer (some ⟨s, 0, none⟩), vv] w fun e w' => ∃ v hs B' L', e = .returned (.tuple #[v, .int .i64 0]) ∧ WOut s n room off B L w B' L' w' (31 * vs.length) v hs ∧ hs.length = vs.length ∧ DenL n L' hs (fun i y => y (vs.getD i 0)) := by
  obtain ⟨i0, hi, hz0, hz1, hz2⟩ := info_parts Tryz.info_handle
  obtain ⟨a, cap0, rfl, hcap0⟩ := row_shape hI
  have HR := Lib.hid hr
  have HV := Lib.hid hv
  have HO := Lib.hid hown
  clear hr hv hown
  go_enter Tryz.func87, Tryz.ntmps87
  go_wp2_with fail
  refine (long_any vs.length _ h1 h8).mono ?_
  rintro e w' ⟨rfl, rfl⟩
  go_wp2_with fail
  go_loopg [19] vs.length (fun kk i wr => ∃ j : Nat, j ≤ vs.length ∧ kk = vs.length - j ∧ i = .int .i64 (j : Int) ∧ w = wr)
  case atStart => exact ⟨0, by omega, by omega, rfl, rfl⟩
  case round =>
    obtain ⟨j, hj, hk, rfl, rfl⟩ := hrel
    by_cases hlt : j < vs.length
    · obtain ⟨x, hx⟩ : ∃ x, vs[j]? = some x := ⟨vs[j], List.getElem?_eq_getElem hlt⟩
      have hxn := HV.out j x hx
      obtain ⟨g, cap, e, cg⟩ := intsAt_get hI hx
      obtain ⟨rfl, rfl⟩ : a = some ⟨g, 0, none⟩ ∧ cap0 = cap := by simpa using e
      clear e hx
      go_wp2_with fail
      refine (sto_vars h).mono ?_
      rintro e w' ⟨rfl, rfl⟩
      go_wp2
      go_roundg (vs.length - (j + 1))
      case measure => omega
      case rel => exact ⟨j + 1, by omega, rfl, by go_num, rfl⟩
    · have e : j = vs.length := by omega
      subst e
      go_wp2_with fail
      go_loopg [8, 34] vs.length (fun kk v i wr => ∃ (j : Nat) (hs : List Nat) (B' : List Nat) (L' : List Bdd.Nd), j ≤ vs.length ∧ kk = vs.length - j ∧ i = .int .i64 (j : Int) ∧ hs.length = j ∧ WOut s n room off B L w B' L' wr (31 * j) v hs ∧ DenL n L' hs (fun i y => y (vs.getD i 0)))
      case atStart => exact ⟨0, [], B, L, by omega, by omega, rfl, rfl, WOut.start h, DenL.nil _ _ _⟩
      case round =>
        obtain ⟨j, hs, B', L', hj, hk, rfl, hl, hW, hD⟩ := hrel
        by_cases hlt : j < vs.length
        · obtain ⟨x, hx⟩ : ∃ x, vs[j]? = some x := ⟨vs[j], List.getElem?_eq_getElem hlt⟩
          have hxn := HV.out j x hx
          have hIr := row_fr hI hW.evo.fr HO.out
          obtain ⟨g, cap, e, cg⟩ := intsAt_get hIr hx
          obtain ⟨rfl, rfl⟩ : a = some ⟨g, 0, none⟩ ∧ cap0 = cap := by simpa using e
          have hgx : vs.getD j 0 = x := by rw [List.getD_eq_getElem?_getD, hx]; rfl
          have HGX := Lib.hid hgx
          have HW := Lib.hid hW
          have HD := Lib.hid hD
          clear e hx hIr hgx hW hD
          go_wp2_with fail
          refine (var_any HW.out.evo.sto hxn).mono ?_
          intro e w2 hp
          have hhi := HW.out.evo.gr.hi
          have hroom := HR.out
          obtain ⟨B2, L2, hh, hev, rfl, hden⟩ := OpPost.ok hp (by omega)
          have hW2 := HW.out.step hev
          have hD2 := (HD.out.more HW.out.evo.gr.wf hev.gr).push hl (F := fun i y => y (vs.getD i 0)) (by rw [HGX.out]; exact hden)
          have HW2 := Lib.hid hW2
          have HD2 := Lib.hid hD2
          clear hp hev hden hW2 hD2 hhi hroom
          go_wp2_with (at_builtin; go_loud (refine wpList_append_lies _ rfl _ _ _ rfl 0 28 i0 (.int .u32 0) 1 4 Tryz.underlying24 hi hz0 hz1 hz2 rfl (by omega) u8 hs.length _ rfl (HW2.out.row.alloc _) ⟨w2.heap.size, 0, none⟩ 1 1 [.int .u32 (hh : Int)] rfl rfl ?hnews ?h1 (by omega) ?h63 (by omega) (Nat.zero_le _) (w2.heap.size + 1) (by simp) ?_))
          case hnews =>
            intro i u hi
            have : i = 0 := by simpa using (List.getElem?_eq_some_iff.1 hi).1
            subst this
            simp only [List.getElem?_cons_zero, Option.some.injEq] at hi
            subst hi
            exact (Blk.new w2 #[.int .u32 (hh : Int)] 28).cell 0 rfl
          case h1 =>
            intro u hu
            simp only [List.mem_singleton] at hu
            subst hu; rfl
          case h63 => unfold maxLen; omega
          · intro g' cap' w3 hown3 hgrow hat hglt
            have hW3 := HW2.out.push hl hown3 hgrow hat
            have HW3 := Lib.hid hW3
            clear hW3 hown3 hgrow hat
            go_wp2
            go_roundg (vs.length - (j + 1))
            case measure => omega
            case rel => exact ⟨j + 1, _, B2, L2, by omega, rfl, by go_num, by simp [hl], HW3.out, HD2.out⟩
        · have e : j = vs.length := by omega
          subst e
          have HW := Lib.hid hW
          have HD := Lib.hid hD
          clear hW hD
          go_wp2
          go_ret2
          exact ⟨_, hs, B', L', rfl, HW.out, hl, HD.out⟩
end
end Go.Proofs.YtiojnjihbidbiaaGreat
/- word, walked: gates, and what is made of them. -/
namespace Go.Proofs.YtiojnjihbidbiaaGreat
open Go.RowKit
attribute [local go_sem ↓] Go.wp_at_zero Go.wp_at_succ
set_option linter.unusedVariables false

theorem Fr.same {O : List Nat} {w w' : World} {g : Nat} {cs : Array Value} {t : TypeId} (f : Fr (g :: O) w w') (h : Blk w g cs t) (h' : Blk w' g cs t) : Fr O w w' :=
  ⟨f.os, f.tape, f.output, f.size, fun k hk hn => by
    by_cases e : k = g
    · subst e; rw [show w'.heap[k]? = _ from h', show w.heap[k]? = _ from h]
    · exact f.block k hk (by simp [e, hn])⟩

section
variable {w w' : World} {s n room : Nat} {off : Bool} {B : List Nat} {L : List Bdd.Nd}

/-- What a circuit answers: a handle that tells F; at most c nodes more above level 5. -/
def GPost (s n room : Nat) (off : Bool) (B : List Nat) (L : List Bdd.Nd) (w : World) (c : Nat) (F : (Nat → Bool) → Bool) (e : Ending) (w' : World) : Prop :=
  ∃ (h : Nat) (B' : List Nat) (L' : List Bdd.Nd), e = .returned (.int .u32 (h : Int)) ∧ Evo s n room off B L w B' L' w' c ∧ Den n L' h F

/-- A gate's block beside a store. -/
structure GAt (w : World) (g s : Nat) (B : List Nat) (n room : Nat) (off : Bool) (L : List Bdd.Nd) : Prop where
  blk : Blk w g #[.pointer (some ⟨s, 0, none⟩), .int .i64 0] 145
  sto : Sto w s B n room off L
  apart : g ∉ B

theorem GAt.evo {g c : Nat} {B' : List Nat} {L' : List Bdd.Nd} (h : GAt w g s B n room off L) (e : Evo s n room off B L w B' L' w' c) : GAt w' g s B' n room off L' :=
  ⟨h.blk.fr e.fr h.apart, e.sto, fun hb => by
    rcases e.own g hb with h1 | h1
    · exact h.apart h1
    · have := h.blk.lt; omega⟩

set_option maxHeartbeats 1000000 in
theorem gate_any {g k a b : Nat} {F : (Nat → Bool) → Bool} (h : GAt w g s B n room off L) (hcf : ∀ (args : Array Value) (w : World), (callFunc k args).run Tryz.prog w = .ok (.enter k args) w)
    (hop : Calls Tryz.prog k #[.pointer (some ⟨s, 0, none⟩), .int .u32 (a : Int), .int .u32 (b : Int)] w (FnPost s n room off B L w F)) (hr : Bdd.high L + 31 + 256 < room ∨ n ≤ 3 ∧ 256 < room) :
    Calls Tryz.prog 162 #[.pointer (some ⟨g, 0, none⟩), fnV k, .int .u32 (a : Int), .int .u32 (b : Int)] w (GPost s n room off B L w 31 F) := by
  have c0 := h.blk.cell 0 (v := .pointer (some ⟨s, 0, none⟩)) rfl
  have c1 := h.blk.cell 1 (v := .int .i64 0) rfl
  have H := Lib.hid h
  clear h
  go_enter Tryz.func162, Tryz.ntmps162
  go_wp2_with fail
  refine hop.mono ?_
  intro e w1 hp
  obtain ⟨B1, L1, h1, hev, rfl, hden⟩ := OpPost.ok hp hr
  have hG1 := H.out.evo hev
  have d1 := hG1.blk.cell 1 (v := .int .i64 0) rfl
  have f1 := hG1.blk.free 1
  have F1 : Fr [g] w1 (w1.setCell ⟨g, 1, none⟩ (.int .i64 0)) := (Fr.refl [g] w1).setCell _ (.inl (by simp))
  have F2 : Fr [] w1 (w1.setCell ⟨g, 1, none⟩ (.int .i64 0)) := Fr.same F1 hG1.blk (hG1.blk.set 1 (.int .i64 0))
  have hfin : GPost s n room off B L w 31 F (.returned (.int .u32 (h1 : Int))) (w1.setCell ⟨g, 1, none⟩ (.int .i64 0)) :=
    ⟨h1, B1, L1, rfl, hev.trans ((hev.sto.fr F2 (by simp)).evo F2 (by simp)), hden⟩
  have HF := Lib.hid hfin
  clear hfin hp hev hden hG1 F1 F2
  go_wp2
  go_ret
  exact HF.out

theorem gand_any {g a b : Nat} {F G : (Nat → Bool) → Bool} (h : GAt w g s B n room off L) (da : Den n L a F) (db : Den n L b G) (hr : Bdd.high L + 31 + 256 < room ∨ n ≤ 3 ∧ 256 < room) :
    Calls Tryz.prog 99 #[.pointer (some ⟨g, 0, none⟩), .int .u32 (a : Int), .int .u32 (b : Int)] w (GPost s n room off B L w 31 fun y => (F y && G y)) := by
  go_enter Tryz.func99, Tryz.ntmps99
  go_wp2_with fail
  refine (gate_any h (fun args w => by kernel_rfl) (and_any h.sto da db) hr).mono ?_
  rintro e w1 ⟨x, B1, L1, rfl, hev, hden⟩
  go_wp2
  go_ret
  exact ⟨x, B1, L1, rfl, hev, hden⟩

theorem gor_any {g a b : Nat} {F G : (Nat → Bool) → Bool} (h : GAt w g s B n room off L) (da : Den n L a F) (db : Den n L b G) (hr : Bdd.high L + 31 + 256 < room ∨ n ≤ 3 ∧ 256 < room) :
    Calls Tryz.prog 207 #[.pointer (some ⟨g, 0, none⟩), .int .u32 (a : Int), .int .u32 (b : Int)] w (GPost s n room off B L w 31 fun y => (F y || G y)) := by
  go_enter Tryz.func207, Tryz.ntmps207
  go_wp2_with fail
  refine (gate_any h (fun args w => by kernel_rfl) (or_any h.sto da db) hr).mono ?_
  rintro e w1 ⟨x, B1, L1, rfl, hev, hden⟩
  go_wp2
  go_ret
  exact ⟨x, B1, L1, rfl, hev, hden⟩

theorem gxor_any {g a b : Nat} {F G : (Nat → Bool) → Bool} (h : GAt w g s B n room off L) (da : Den n L a F) (db : Den n L b G) (hr : Bdd.high L + 31 + 256 < room ∨ n ≤ 3 ∧ 256 < room) :
    Calls Tryz.prog 102 #[.pointer (some ⟨g, 0, none⟩), .int .u32 (a : Int), .int .u32 (b : Int)] w (GPost s n room off B L w 31 fun y => (F y ^^ G y)) := by
  go_enter Tryz.func102, Tryz.ntmps102
  go_wp2_with fail
  refine (gate_any h (fun args w => by kernel_rfl) (xor_any h.sto da db) hr).mono ?_
  rintro e w1 ⟨x, B1, L1, rfl, hev, hden⟩
  go_wp2
  go_ret
  exact ⟨x, B1, L1, rfl, hev, hden⟩

theorem gnot_any {g a : Nat} {F : (Nat → Bool) → Bool} (h : GAt w g s B n room off L) (da : Den n L a F) (hr : Bdd.high L + 31 + 256 < room ∨ n ≤ 3 ∧ 256 < room) :
    Calls Tryz.prog 101 #[.pointer (some ⟨g, 0, none⟩), .int .u32 (a : Int)] w (GPost s n room off B L w 31 fun y => !(F y)) := by
  go_enter Tryz.func101, Tryz.ntmps101
  go_wp2_with fail
  refine (gxor_any h Den.one da hr).mono ?_
  rintro e w1 ⟨x, B1, L1, rfl, hev, hden⟩
  go_wp2
  go_ret
  exact ⟨x, B1, L1, rfl, hev, hden.fn fun y => by simp⟩

/-- A circuit's call goes on from where another one ended. -/
theorem GPost.after {c c1 c2 : Nat} {F : (Nat → Bool) → Bool} {B1 : List Nat} {L1 : List Bdd.Nd} {w1 : World} {e : Ending} (h1 : Evo s n room off B L w B1 L1 w1 c1) (h2 : GPost s n room off B1 L1 w1 c2 F e w') (hc : c1 + c2 ≤ c) : GPost s n room off B L w c F e w' := by
  obtain ⟨h, B2, L2, e, hev, hden⟩ := h2
  exact ⟨h, B2, L2, e, (h1.trans hev).mono hc, hden⟩

theorem gtwo_any {g a b c : Nat} {F G H : (Nat → Bool) → Bool} (h : GAt w g s B n room off L) (da : Den n L a F) (db : Den n L b G) (dc : Den n L c H) (hr : Bdd.high L + 124 + 256 < room ∨ n ≤ 3 ∧ 256 < room) :
    Calls Tryz.prog 158 #[.pointer (some ⟨g, 0, none⟩), .int .u32 (a : Int), .int .u32 (b : Int), .int .u32 (c : Int)] w (GPost s n room off B L w 124 fun y => ((F y && G y) || (H y && (F y || G y)))) := by
  go_enter Tryz.func158, Tryz.ntmps158
  go_wp2_with fail
  refine (gand_any h da db (by omega)).mono ?_
  rintro e w1 ⟨x1, B1, L1, rfl, e1, d1⟩
  have h1 := h.evo e1
  have r1 := e1.gr.hi
  go_wp2_with fail
  refine (gor_any h1 (da.more h.sto.wf e1.gr) (db.more h.sto.wf e1.gr) (by omega)).mono ?_
  rintro e w2 ⟨x2, B2, L2, rfl, e2, d2⟩
  have h2 := h1.evo e2
  have r2 := e2.gr.hi
  go_wp2_with fail
  refine (gand_any h2 (dc.more h.sto.wf (e1.trans e2).gr) d2 (by omega)).mono ?_
  rintro e w3 ⟨x3, B3, L3, rfl, e3, d3⟩
  have h3 := h2.evo e3
  have r3 := e3.gr.hi
  go_wp2_with fail
  refine (gor_any h3 (d1.more h1.sto.wf (e2.trans e3).gr) d3 (by omega)).mono ?_
  rintro e w4 ⟨x4, B4, L4, rfl, e4, d4⟩
  go_wp2
  go_ret
  exact ⟨x4, B4, L4, rfl, ((e1.trans e2).trans e3).trans e4, d4⟩

/-- What a full adder (or taker) answers: two handles. -/
def GPost2 (s n room : Nat) (off : Bool) (B : List Nat) (L : List Bdd.Nd) (w : World) (c : Nat) (F G : (Nat → Bool) → Bool) (e : Ending) (w' : World) : Prop :=
  ∃ (h k : Nat) (B' : List Nat) (L' : List Bdd.Nd), e = .returned (.tuple #[.int .u32 (h : Int), .int .u32 (k : Int)]) ∧ Evo s n room off B L w B' L' w' c ∧ Den n L' h F ∧ Den n L' k G

theorem gadder_any {g a b c : Nat} {F G H : (Nat → Bool) → Bool} (h : GAt w g s B n room off L) (da : Den n L a F) (db : Den n L b G) (dc : Den n L c H) (hr : Bdd.high L + 217 + 256 < room ∨ n ≤ 3 ∧ 256 < room) :
    Calls Tryz.prog 90 #[.pointer (some ⟨g, 0, none⟩), .int .u32 (a : Int), .int .u32 (b : Int), .int .u32 (c : Int)] w (GPost2 s n room off B L w 217 (fun y => ((F y ^^ G y) ^^ H y)) fun y => ((F y && G y) || (H y && (F y || G y)))) := by
  go_enter Tryz.func90, Tryz.ntmps90
  go_wp2_with fail
  refine (gxor_any h da db (by omega)).mono ?_
  rintro e w1 ⟨x1, B1, L1, rfl, e1, d1⟩
  have h1 := h.evo e1
  have r1 := e1.gr.hi
  go_wp2_with fail
  refine (gxor_any h1 d1 (dc.more h.sto.wf e1.gr) (by omega)).mono ?_
  rintro e w2 ⟨x2, B2, L2, rfl, e2, d2⟩
  have h2 := h1.evo e2
  have r2 := e2.gr.hi
  have da2 := da.more h.sto.wf (e1.trans e2).gr
  have db2 := db.more h.sto.wf (e1.trans e2).gr
  have dc2 := dc.more h.sto.wf (e1.trans e2).gr
  go_wp2_with fail
  refine (gtwo_any h2 da2 db2 dc2 (by omega)).mono ?_
  rintro e w4 ⟨x4, B4, L4, rfl, e4, d4⟩
  go_wp2
  go_ret2
  exact ⟨x2, x4, B4, L4, rfl, ((e1.trans e2).trans e4).mono (by omega), d2.more h2.sto.wf e4.gr, d4⟩

theorem gtaker_any {g a b c : Nat} {F G H : (Nat → Bool) → Bool} (h : GAt w g s B n room off L) (da : Den n L a F) (db : Den n L b G) (dc : Den n L c H) (hr : Bdd.high L + 217 + 256 < room ∨ n ≤ 3 ∧ 256 < room) :
    Calls Tryz.prog 91 #[.pointer (some ⟨g, 0, none⟩), .int .u32 (a : Int), .int .u32 (b : Int), .int .u32 (c : Int)] w (GPost2 s n room off B L w 217 (fun y => ((F y ^^ G y) ^^ H y)) fun y => ((!(F y) && G y) || (H y && (!(F y) || G y)))) := by
  go_enter Tryz.func91, Tryz.ntmps91
  go_wp2_with fail
  refine (gxor_any h da db (by omega)).mono ?_
  rintro e w1 ⟨x1, B1, L1, rfl, e1, d1⟩
  have h1 := h.evo e1
  have r1 := e1.gr.hi
  go_wp2_with fail
  refine (gxor_any h1 d1 (dc.more h.sto.wf e1.gr) (by omega)).mono ?_
  rintro e w2 ⟨x2, B2, L2, rfl, e2, d2⟩
  have h2 := h1.evo e2
  have r2 := e2.gr.hi
  have da2 := da.more h.sto.wf (e1.trans e2).gr
  have db2 := db.more h.sto.wf (e1.trans e2).gr
  have dc2 := dc.more h.sto.wf (e1.trans e2).gr
  go_wp2_with fail
  refine (gnot_any h2 da2 (by omega)).mono ?_
  rintro e w3 ⟨x3, B3, L3, rfl, e3, d3⟩
  have h3 := h2.evo e3
  have r3 := e3.gr.hi
  go_wp2_with fail
  refine (gtwo_any h3 d3 (db2.more h2.sto.wf e3.gr) (dc2.more h2.sto.wf e3.gr) (by omega)).mono ?_
  rintro e w4 ⟨x4, B4, L4, rfl, e4, d4⟩
  go_wp2
  go_ret2
  exact ⟨x2, x4, B4, L4, rfl, ((e1.trans e2).trans e3).trans e4, d2.more h2.sto.wf (e3.trans e4).gr, d4⟩

end
end Go.Proofs.YtiojnjihbidbiaaGreat
/- word, walked: why words can't be joined. -/
namespace Go.Proofs.YtiojnjihbidbiaaGreat
open Go.RowKit
attribute [local go_sem ↓] Go.wp_at_zero Go.wp_at_succ
set_option linter.unusedVariables false

/-- A slice of slices of handles. -/
def RowsAt (w : World) (v : Value) (ps : List (Value × List Nat)) : Prop := w.ownsRow 0 24 1 v ps.length (ps.map Prod.fst) ∧ ∀ (i : Nat) p, ps[i]? = some p → HsAt w p.1 p.2

def badLen (ps : List (Value × List Nat)) : Prop := ∃ (i : Nat) (p q : Value × List Nat), ps[i]? = some p ∧ ps[0]? = some q ∧ (p.2.length < 1 ∨ 8 < p.2.length ∨ p.2.length ≠ q.2.length)
def badNd (L : List Bdd.Nd) (ps : List (Value × List Nat)) : Prop := ∃ (i : Nat) (p : Value × List Nat) (j h : Nat), ps[i]? = some p ∧ p.2[j]? = some h ∧ L.length + 2 ≤ h

def RefPost (L : List Bdd.Nd) (ps : List (Value × List Nat)) (w : World) (e : Ending) (w' : World) : Prop :=
  w = w' ∧ ((e = .returned (.int .i64 40) ∧ badLen ps) ∨ (e = .returned (.int .i64 101) ∧ ¬ badLen ps ∧ badNd L ps) ∨ (e = .returned (.int .i64 0) ∧ ¬ badLen ps ∧ ¬ badNd L ps))

/-- The first j are long enough. -/
def OkLen (ps : List (Value × List Nat)) (j : Nat) : Prop := ∀ (i : Nat) (p q : Value × List Nat), i < j → ps[i]? = some p → ps[0]? = some q → 1 ≤ p.2.length ∧ p.2.length ≤ 8 ∧ p.2.length = q.2.length
def OkNd (L : List Bdd.Nd) (ps : List (Value × List Nat)) (j : Nat) : Prop := ∀ (i : Nat) (p : Value × List Nat) (m h : Nat), i < j → ps[i]? = some p → p.2[m]? = some h → h < L.length + 2

theorem OkLen.all {ps : List (Value × List Nat)} {j : Nat} (h : OkLen ps j) (hj : ps.length ≤ j) : ¬ badLen ps := by
  rintro ⟨i, p, q, hp, hq, hb⟩
  have := h i p q (by have := (List.getElem?_eq_some_iff.1 hp).1; omega) hp hq
  omega
theorem OkNd.all {L : List Bdd.Nd} {ps : List (Value × List Nat)} {j : Nat} (h : OkNd L ps j) (hj : ps.length ≤ j) : ¬ badNd L ps := by
  rintro ⟨i, p, m, x, hp, hx, hb⟩
  have := h i p m x (by have := (List.getElem?_eq_some_iff.1 hp).1; omega) hp hx
  omega
theorem OkLen.next {ps : List (Value × List Nat)} {j : Nat} {p q : Value × List Nat} (h : OkLen ps j) (hp : ps[j]? = some p) (hq : ps[0]? = some q) (h1 : 1 ≤ p.2.length ∧ p.2.length ≤ 8 ∧ p.2.length = q.2.length) : OkLen ps (j + 1) := by
  intro i p' q' hi hp' hq'
  rcases Nat.lt_or_ge i j with h2 | h2
  · exact h i p' q' h2 hp' hq'
  · have : i = j := by omega
    subst this
    rw [hp] at hp'; rw [hq] at hq'
    obtain rfl := Option.some.inj hp'
    obtain rfl := Option.some.inj hq'
    exact h1
theorem OkNd.next {L : List Bdd.Nd} {ps : List (Value × List Nat)} {j : Nat} {p : Value × List Nat} (h : OkNd L ps j) (hp : ps[j]? = some p) (h1 : ∀ (m x : Nat), p.2[m]? = some x → x < L.length + 2) : OkNd L ps (j + 1) := by
  intro i p' m x hi hp' hx
  rcases Nat.lt_or_ge i j with h2 | h2
  · exact h i p' m x h2 hp' hx
  · have : i = j := by omega
    subst this
    rw [hp] at hp'
    obtain rfl := Option.some.inj hp'
    exact h1 m x hx

section
variable {w w' : World} {s n room : Nat} {off : Bool} {B : List Nat} {L : List Bdd.Nd}

set_option maxHeartbeats 2000000 in
set_option maxRecDepth 4000 in
theorem refuses_any (h : Sto w s B n room off L) {lv : Value} {ps : List (Value × List Nat)} (hps : RowsAt w lv ps) (hlen : ps.length ≤ 8) (hsm : ∀ (i : Nat) (p : Value × List Nat) (j x : Nat), ps[i]? = some p → p.2[j]? = some x → x < 4294967296) (hlt : ∀ (i : Nat) (p : Value × List Nat), ps[i]? = some p → p.2.length < 1000000) :
    Calls Tryz.prog 98 #[.pointer (some ⟨s, 0, none⟩), lv] w (RefPost L ps w) := by
  obtain ⟨a, cap0, rfl, hcap0⟩ := row_shape hps.1
  have HS := Lib.hid hsm
  have HL := Lib.hid hlt
  have hlenL := h.len
  clear hsm hlt
  go_enter Tryz.func98, Tryz.ntmps98
  go_wp2_with fail
  go_loopg [13] ps.length (fun kk i wr => ∃ j : Nat, j ≤ ps.length ∧ kk = ps.length - j ∧ i = .int .i64 (j : Int) ∧ w = wr ∧ OkLen ps j)
  case atStart => exact ⟨0, by omega, by omega, rfl, rfl, fun i p q hi => absurd hi (by omega)⟩
  case round =>
    obtain ⟨j, hj, hk, rfl, rfl, hok⟩ := hrel
    by_cases hjl : j < ps.length
    · obtain ⟨p, hp⟩ : ∃ p, ps[j]? = some p := ⟨ps[j], List.getElem?_eq_getElem hjl⟩
      obtain ⟨q, hq⟩ : ∃ q, ps[0]? = some q := ⟨ps[0], List.getElem?_eq_getElem (by omega)⟩
      obtain ⟨g, cap, e, _, cg⟩ := row_get hps.1 (i := j) (x := p.1) (by rw [List.getElem?_map, hp]; rfl)
      obtain ⟨rfl, rfl⟩ : a = some ⟨g, 0, none⟩ ∧ cap0 = cap := by simpa using e
      obtain ⟨g', cap', e', _, cg0⟩ := row_get hps.1 (i := 0) (x := q.1) (by rw [List.getElem?_map, hq]; rfl)
      obtain ⟨rfl, rfl⟩ : g = g' ∧ cap0 = cap' := by simpa using e'
      obtain ⟨pa, pcap, hpv, _⟩ := (hps.2 j p hp).shape
      obtain ⟨qa, qcap, hqv, _⟩ := (hps.2 0 q hq).shape
      have hpl := HL.out j p hp
      have hql := HL.out 0 q hq
      rw [hpv] at cg
      rw [hqv] at cg0
      have HP := Lib.hid hp
      have HQ := Lib.hid hq
      have HOK := Lib.hid hok
      clear e e' hp hq hpv hqv hok
      by_cases hlong : 1 ≤ p.2.length ∧ p.2.length ≤ 8
      · by_cases heq : p.2.length = q.2.length
        · have t := yz heq
          have hnx := HOK.out.next HP.out HQ.out ⟨hlong.1, hlong.2, heq⟩
          have HNX := Lib.hid hnx
          clear hnx heq
          go_wp2_with fail
          refine (long_any p.2.length _ hlong.1 hlong.2).mono ?_
          rintro e w' ⟨rfl, rfl⟩
          go_wp2
          go_roundg (ps.length - (j + 1))
          case measure => omega
          case rel => exact ⟨j + 1, by omega, rfl, by go_num, rfl, HNX.out⟩
        · have t := ne_test heq
          have hfin : RefPost L ps w (.returned (.int .i64 40)) w := ⟨rfl, .inl ⟨rfl, j, p, q, HP.out, HQ.out, .inr (.inr heq)⟩⟩
          have HF := Lib.hid hfin
          clear hfin heq
          go_wp2_with fail
          refine (long_any p.2.length _ hlong.1 hlong.2).mono ?_
          rintro e w' ⟨rfl, rfl⟩
          go_wp2
          go_ret
          exact HF.out
      · have hlong' : p.2.length < 1 ∨ 8 < p.2.length := by omega
        have hfin : RefPost L ps w (.returned (.int .i64 40)) w := ⟨rfl, .inl ⟨rfl, j, p, q, HP.out, HQ.out, by omega⟩⟩
        have HF := Lib.hid hfin
        clear hfin hlong
        go_wp2_with fail
        refine (long_not p.2.length _ hlong').mono ?_
        rintro e w' ⟨rfl, rfl⟩
        go_wp2
        go_ret
        exact HF.out
    · have e : j = ps.length := by omega
      subst e
      have hnb := hok.all (Nat.le_refl _)
      have HNB := Lib.hid hnb
      clear hnb hok
      go_wp2_with fail
      go_loopg [33] ps.length (fun kk i wr => ∃ j : Nat, j ≤ ps.length ∧ kk = ps.length - j ∧ i = .int .i64 (j : Int) ∧ w = wr ∧ OkNd L ps j)
      case atStart => exact ⟨0, by omega, by omega, rfl, rfl, fun i p m x hi => absurd hi (by omega)⟩
      case round =>
        obtain ⟨j, hj, hk, rfl, rfl, hok⟩ := hrel
        by_cases hjl : j < ps.length
        · obtain ⟨p, hp⟩ : ∃ p, ps[j]? = some p := ⟨ps[j], List.getElem?_eq_getElem hjl⟩
          obtain ⟨g, cap, e, _, cg⟩ := row_get hps.1 (i := j) (x := p.1) (by rw [List.getElem?_map, hp]; rfl)
          obtain ⟨rfl, rfl⟩ : a = some ⟨g, 0, none⟩ ∧ cap0 = cap := by simpa using e
          have hHs := hps.2 j p hp
          obtain ⟨pa, pcap, hpv, _⟩ := hHs.shape
          have hpl := HL.out j p hp
          rw [hpv] at cg hHs
          have HP := Lib.hid hp
          have HOK := Lib.hid hok
          clear e hp hpv hok
          go_wp2_with fail
          go_loopg [39] p.2.length (fun kk i wr => ∃ m : Nat, m ≤ p.2.length ∧ kk = p.2.length - m ∧ i = .int .i64 (m : Int) ∧ w = wr ∧ ∀ (i x : Nat), i < m → p.2[i]? = some x → x < L.length + 2)
          case atStart => exact ⟨0, by omega, by omega, rfl, rfl, fun i x hi => absurd hi (by omega)⟩
          case round =>
            obtain ⟨m, hm, hk, rfl, rfl, hok⟩ := hrel
            by_cases hml : m < p.2.length
            · obtain ⟨x, hx⟩ : ∃ x, p.2[m]? = some x := ⟨p.2[m], List.getElem?_eq_getElem hml⟩
              obtain ⟨g2, cap2, e, cg2⟩ := hHs.get hx
              obtain ⟨rfl, rfl⟩ : pa = some ⟨g2, 0, none⟩ ∧ pcap = cap2 := by simpa using e
              have hxs := HS.out j p m x HP.out hx
              by_cases hxl : x < L.length + 2
              · have hnx : ∀ (i y : Nat), i < m + 1 → p.2[i]? = some y → y < L.length + 2 := fun i y hi hy => by
                  rcases Nat.lt_or_ge i m with h2 | h2
                  · exact hok i y h2 hy
                  · have : i = m := by omega
                    subst this
                    rw [hx] at hy; obtain rfl := Option.some.inj hy; exact hxl
                have t : decide ((x : Int) < (L.length : Int) + 2) = true := by simp; omega
                have HNX := Lib.hid hnx
                clear e hx hok hnx
                go_wp2_with fail
                refine (sto_is h (x : Int) (by omega) (by omega)).mono ?_
                rw [t]
                rintro e w' ⟨rfl, rfl⟩
                go_wp2
                go_roundg (p.2.length - (m + 1))
                case measure => omega
                case rel => exact ⟨m + 1, by omega, rfl, by go_num, rfl, HNX.out⟩
              · have t : decide ((x : Int) < (L.length : Int) + 2) = false := by simp; omega
                have hfin : RefPost L ps w (.returned (.int .i64 101)) w := ⟨rfl, .inr (.inl ⟨rfl, HNB.out, j, p, m, x, HP.out, hx, by omega⟩)⟩
                have HF := Lib.hid hfin
                clear e hx hok hfin
                go_wp2_with fail
                refine (sto_is h (x : Int) (by omega) (by omega)).mono ?_
                rw [t]
                rintro e w' ⟨rfl, rfl⟩
                go_wp2
                go_ret
                exact HF.out
            · have e : m = p.2.length := by omega
              subst e
              have hnx := HOK.out.next HP.out (fun i x hx => hok i x (List.getElem?_eq_some_iff.1 hx).1 hx)
              have HNX := Lib.hid hnx
              clear hok hnx
              go_wp2
              go_roundg (ps.length - (j + 1))
              case measure => omega
              case rel => exact ⟨j + 1, by omega, rfl, by go_num, rfl, HNX.out⟩
        · have e : j = ps.length := by omega
          subst e
          have hfin : RefPost L ps w (.returned (.int .i64 0)) w := ⟨rfl, .inr (.inr ⟨rfl, HNB.out, hok.all (Nat.le_refl _)⟩)⟩
          have HF := Lib.hid hfin
          clear hfin hok
          go_wp2
          go_ret
          exact HF.out
end
end Go.Proofs.YtiojnjihbidbiaaGreat

/- word, walked: a number as a word. -/
import Derived.Test.YtiojnjihbidbiaaGreatNew
namespace Go.Proofs.YtiojnjihbidbiaaGreat
open Go.RowKit
attribute [local go_sem ↓] Go.wp_at_zero Go.wp_at_succ
attribute [local go_sem ↓] run_min run_max
set_option linter.unusedVariables false

theorem Tryz.info_handle : (Tryz.prog.info? 28).map (fun i => (i.zero, i.size, i.bytes)) = some (some (.int .u32 0), 1, 4) := by kernel_rfl

/-- A slice of handles. -/
def HsAt (w : World) (v : Value) (hs : List Nat) : Prop := w.ownsRow 0 28 1 v hs.length (hs.map fun (h : Nat) => Value.int .u32 (h : Int))

theorem HsAt.nil (w : World) : HsAt w (.slice none 0 0) [] := ⟨rfl, .inl ⟨rfl, rfl⟩⟩
theorem HsAt.fr {O : List Nat} {w w' : World} {v : Value} {hs : List Nat} (h : HsAt w v hs) (f : Fr O w w') (hb : ∀ k, v.ownBlock = some k → k ∉ O) : HsAt w' v hs := by
  obtain ⟨h1, h2⟩ := h
  refine ⟨h1, ?_⟩
  rcases h2 with h2 | ⟨g, cap, cur, rfl, hb0, hg, r⟩
  · exact .inl h2
  · refine .inr ⟨g, cap, cur, rfl, hb0, ?_, r⟩
    rw [f.block g (Array.getElem?_eq_some_iff.1 hg).1 (hb g rfl)]; exact hg
theorem HsAt.shape {w : World} {v : Value} {hs : List Nat} (h : HsAt w v hs) : ∃ a cap, v = .slice a hs.length cap ∧ hs.length ≤ cap := by
  obtain ⟨_, h⟩ := h
  rcases h with ⟨rfl, h0⟩ | ⟨g, cap, cur, rfl, _, hg, hc, hm, hs, ht⟩
  · exact ⟨none, 0, by rw [h0], by omega⟩
  · exact ⟨_, _, rfl, hc⟩
theorem HsAt.lt {w : World} {v : Value} {hs : List Nat} (h : HsAt w v hs) {k : Nat} (hk : v.ownBlock = some k) : k < w.heap.size := by
  obtain ⟨_, h⟩ := h
  rcases h with ⟨rfl, h0⟩ | ⟨g, cap, cur, rfl, _, hg, _⟩
  · cases hk
  · obtain rfl : g = k := by simpa [Value.ownBlock] using hk
    exact (Array.getElem?_eq_some_iff.1 hg).1
theorem HsAt.get {w : World} {v : Value} {hs : List Nat} (h : HsAt w v hs) {i x : Nat} (hx : hs[i]? = some x) : ∃ g cap, v = .slice (some ⟨g, 0, none⟩) hs.length cap ∧ w.cell? ⟨g, i, none⟩ = some (.int .u32 (x : Int)) := by
  have hi := (List.getElem?_eq_some_iff.1 hx).1
  obtain ⟨hl, h⟩ := h
  rcases h with ⟨_, h0⟩ | ⟨g, cap, cur, rfl, hb, hg, hc, hm, hs', ht⟩
  · omega
  · refine ⟨g, cap, rfl, ?_⟩
    have := World.ownsRow.cellAt (w := w) (base := 0) (e := 28) (size := 1) (n := hs.length) (xs := hs.map fun (h : Nat) => Value.int .u32 (h : Int)) (g := g) (cap := cap) ⟨hl, .inr ⟨g, cap, cur, rfl, hb, hg, hc, hm, hs', ht⟩⟩ i (by omega)
    rw [this, List.getElem?_map, hx]; rfl

theorem bit_u8 (n j : Nat) (hn : n < 256) : bits BinOp.and IntKind.u8 ((n : Int) / 2 ^ j) 1 = ((n / 2 ^ j % 2 : Nat) : Int) := by
  have e : (n : Int) / 2 ^ j = ((n / 2 ^ j : Nat) : Int) := by simp
  have h : n / 2 ^ j < 256 := Nat.lt_of_le_of_lt (Nat.div_le_self _ _) hn
  rw [e, show (1 : Int) = ((1 : Nat) : Int) from rfl, u8_and_nat _ _ h (by omega), Nat.and_one_is_mod]

def constL (n k : Nat) : List Nat := (List.range k).map fun i => n / 2 ^ i % 2
theorem constL_len (n k : Nat) : (constL n k).length = k := by simp [constL]
theorem constL_succ (n k : Nat) : constL n (k + 1) = constL n k ++ [n / 2 ^ k % 2] := by simp [constL, List.range_succ]

def OutRel (hs : List Nat) (w : World) (v : Value) (wr : World) : Prop := HsAt wr v hs ∧ Fr [] w wr ∧ ∀ k, v.ownBlock = some k → w.heap.size ≤ k

theorem OutRel.start (w : World) : OutRel [] w (.slice none 0 0) w := ⟨HsAt.nil w, Fr.refl [] w, fun k hk => by cases hk⟩

/-- One handle more. -/
theorem OutRel.push {hs hs' : List Nat} {b g cap m : Nat} {w wr w1 : World} {v : Value} {o : Obj} (e : hs' = hs ++ [b]) (hm : hs.length = m) (hH : HsAt wr v hs) (hF : Fr [] w wr) (hO : ∀ k, v.ownBlock = some k → w.heap.size ≤ k)
    (hown : w1.ownsRow 0 28 1 (.slice (some ⟨g, 0, none⟩) (m + 1) cap) (m + 1) (hs.map (fun (h : Nat) => Value.int .u32 (h : Int)) ++ [.int .u32 (b : Int)])) (hg : (wr.alloc o).grownBy w1 v.ownBlock) (hat : v.ownBlock = some g ∨ g = wr.heap.size + 1) :
    OutRel hs' w (.slice (some ⟨g, 0, none⟩) (m + 1) cap) w1 := by
  subst e
  subst hm
  have s1 := hF.size
  refine ⟨?_, (hF.alloc o).grown hg (fun k hk => .inr (hO k hk)), fun k hk => ?_⟩
  · unfold HsAt
    rw [List.length_append, List.map_append]
    exact hown
  · simp only [Value.ownBlock, Option.some.injEq] at hk
    subst hk
    rcases hat with h | h
    · exact hO _ h
    · omega

set_option maxHeartbeats 1000000 in
set_option maxRecDepth 4000 in
theorem const_any (n k : Nat) (w : World) (hn : n < 256) (k1 : 1 ≤ k) (k8 : k ≤ 8) :
    Calls Tryz.prog 28 #[.int .u8 (n : Int), .int .i64 (k : Int)] w fun e w' => ∃ v, e = .returned v ∧ OutRel (constL n k) w v w' := by
  obtain ⟨i0, hi, hz0, hz1, hz2⟩ := info_parts Tryz.info_handle
  have m1 : ∀ (w : World) (ts : Array TypeId) (t : TypeId), (Builtin.max_ ts t #[.int .i64 (k : Int), .int .i64 1]).run Tryz.prog w = .ok (.int .i64 (k : Int)) w := fun w ts t => by
    rw [show (1 : Int) = ((1 : Nat) : Int) from rfl, run_max, Nat.max_eq_left k1]
  have m2 : ∀ (w : World) (ts : Array TypeId) (t : TypeId), (Builtin.min_ ts t #[.int .i64 (k : Int), .int .i64 8]).run Tryz.prog w = .ok (.int .i64 (k : Int)) w := fun w ts t => by
    rw [show (8 : Int) = ((8 : Nat) : Int) from rfl, run_min, Nat.min_eq_left k8]
  have n1 : ¬ (k : Int) < 1 := by omega
  have n8 : ¬ (8 : Int) < (k : Int) := by omega
  go_enter Tryz.func28, Tryz.ntmps28
  go_wp2_with fail
  go_loopg [5, 10] k (fun kk v i wr => ∃ j : Nat, j ≤ k ∧ kk = k - j ∧ i = .int .i64 (j : Int) ∧ OutRel (constL n j) w v wr)
  case atStart => exact ⟨0, by omega, by omega, rfl, OutRel.start w⟩
  case round =>
    obtain ⟨j, hj, hk, rfl, hr⟩ := hrel
    by_cases hlt : j < k
    · obtain ⟨hH, hF, hO⟩ := hr
      have hlen := constL_len n j
      obtain ⟨b, hb⟩ : ∃ b, b = n / 2 ^ j % 2 := ⟨_, rfl⟩
      have hbit := bit_u8 n j hn
      rw [← hb] at hbit
      have hb2 : (b : Int) % 4294967296 = (b : Int) := by omega
      have hnx : constL n (j + 1) = constL n j ++ [b] := by rw [constL_succ, hb]
      have HNX := Lib.hid hnx
      have HH := Lib.hid hH
      have HFF := Lib.hid hF
      have HO := Lib.hid hO
      clear hnx hb hH hF hO
      generalize constL n j = hs at *
      go_wp2_with (at_builtin; go_loud (refine wpList_append_lies _ rfl _ _ _ rfl 0 28 i0 (.int .u32 0) 1 4 Tryz.underlying24 hi hz0 hz1 hz2 rfl (by omega) u5 hs.length _ rfl (HH.out.alloc _) ⟨wr.heap.size, 0, none⟩ 1 1 [.int .u32 (b : Int)] rfl rfl ?hnews ?h1 (by omega) ?h63 (by omega) (Nat.zero_le _) (wr.heap.size + 1) (by simp) ?_))
      case hnews =>
        intro i u hi
        have : i = 0 := by simpa using (List.getElem?_eq_some_iff.1 hi).1
        subst this
        simp only [List.getElem?_cons_zero, Option.some.injEq] at hi
        subst hi
        exact (Blk.new wr #[.int .u32 (b : Int)] 28).cell 0 rfl
      case h1 =>
        intro u hu
        simp only [List.mem_singleton] at hu
        subst hu; rfl
      case h63 => unfold maxLen; omega
      · intro g cap w1 hown1 hgrow hat hglt
        have hrel : OutRel (constL n (j + 1)) w (.slice (some ⟨g, 0, none⟩) (j + 1) cap) w1 := OutRel.push HNX.out hlen HH.out HFF.out HO.out hown1 hgrow hat
        have HREL := Lib.hid hrel
        clear hrel hown1 hgrow hat
        go_wp2
        go_roundg (k - (j + 1))
        case measure => omega
        case rel => exact ⟨j + 1, by omega, rfl, by go_num, HREL.out⟩
    · have e : j = k := by omega
      subst e
      have HR := Lib.hid hr
      clear hr
      go_wp2
      go_ret
      exact ⟨_, rfl, HR.out⟩
end Go.Proofs.YtiojnjihbidbiaaGreat

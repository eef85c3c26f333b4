/- word, walked: variables as a word. -/
import Derived.Test.YtiojnjihbidbiaaGreatWord1
namespace Go.Proofs.YtiojnjihbidbiaaGreat
open Go.RowKit
attribute [local go_sem ↓] Go.wp_at_zero Go.wp_at_succ
attribute [local go_sem ↓] run_min run_max
set_option linter.unusedVariables false

theorem Tryz.info_int : (Tryz.prog.info? 3).map (fun i => (i.zero, i.size, i.bytes)) = some (some (.int .i64 0), 1, 8) := by kernel_rfl

/-- A slice of ints. -/
def IntsAt (w : World) (v : Value) (vs : List Nat) : Prop := w.ownsRow 0 3 1 v vs.length (vs.map fun (h : Nat) => Value.int .i64 (h : Int))

theorem row_fr {O : List Nat} {w w' : World} {t : TypeId} {sz n : Nat} {v : Value} {xs : List Value} (h : w.ownsRow 0 t sz v n xs) (f : Fr O w w') (hb : ∀ k, v.ownBlock = some k → k ∉ O) : w'.ownsRow 0 t sz v n xs := by
  obtain ⟨h1, h2⟩ := h
  refine ⟨h1, ?_⟩
  rcases h2 with h2 | ⟨g, cap, cur, rfl, hb0, hg, r⟩
  · exact .inl h2
  · refine .inr ⟨g, cap, cur, rfl, hb0, ?_, r⟩
    rw [f.block g (Array.getElem?_eq_some_iff.1 hg).1 (hb g rfl)]; exact hg
theorem row_shape {w : World} {t : TypeId} {sz n : Nat} {v : Value} {xs : List Value} (h : w.ownsRow 0 t sz v n xs) : ∃ a cap, v = .slice a n cap ∧ n ≤ cap := by
  obtain ⟨_, h⟩ := h
  rcases h with ⟨rfl, h0⟩ | ⟨g, cap, cur, rfl, _, hg, hc, hm, hs, ht⟩
  · exact ⟨none, 0, by rw [h0], by omega⟩
  · exact ⟨_, _, rfl, hc⟩
theorem row_lt {w : World} {t : TypeId} {sz n : Nat} {v : Value} {xs : List Value} (h : w.ownsRow 0 t sz v n xs) {k : Nat} (hk : v.ownBlock = some k) : k < w.heap.size := by
  obtain ⟨_, h⟩ := h
  rcases h with ⟨rfl, h0⟩ | ⟨g, cap, cur, rfl, _, hg, _⟩
  · cases hk
  · obtain rfl : g = k := by simpa [Value.ownBlock] using hk
    exact (Array.getElem?_eq_some_iff.1 hg).1
theorem row_get {w : World} {t : TypeId} {n : Nat} {v : Value} {xs : List Value} (h : w.ownsRow 0 t 1 v n xs) {i : Nat} {x : Value} (hx : xs[i]? = some x) : ∃ g cap, v = .slice (some ⟨g, 0, none⟩) n cap ∧ n ≤ cap ∧ w.cell? ⟨g, i, none⟩ = some x := by
  have hi := (List.getElem?_eq_some_iff.1 hx).1
  have h0 := h
  obtain ⟨hl, h⟩ := h
  rcases h with ⟨_, h0⟩ | ⟨g, cap, cur, rfl, hb, hg, hc, r⟩
  · omega
  · refine ⟨g, cap, rfl, hc, ?_⟩
    rw [h0.cellAt i (by omega), hx]

/-- A slice of n things laid out at once. -/
theorem row_lit {w : World} {t : TypeId} {g : Nat} {cs : Array Value} (h : Blk w g cs t) (hm : cs.size ≤ maxLen) : w.ownsRow 0 t 1 (.slice (some ⟨g, 0, none⟩) cs.size cs.size) cs.size cs.toList :=
  ⟨by simp, .inr ⟨g, cs.size, cs, rfl, Nat.zero_le _, h, Nat.le_refl _, hm, by simp, by simp [List.take_of_length_le]⟩⟩

/-- Words: what the handles of a list tell. -/
def DenL (n : Nat) (L : List Bdd.Nd) (hs : List Nat) (F : Nat → (Nat → Bool) → Bool) : Prop := ∀ (i h : Nat), hs[i]? = some h → Den n L h (F i)

theorem DenL.more {n c : Nat} {L L' : List Bdd.Nd} {hs : List Nat} {F : Nat → (Nat → Bool) → Bool} (d : DenL n L hs F) (hw : Bdd.Wf n (Bdd.tab L)) (g : Bdd.Gr n L L' c) : DenL n L' hs F := fun i h hh => (d i h hh).more hw g
theorem DenL.nil (n : Nat) (L : List Bdd.Nd) (F : Nat → (Nat → Bool) → Bool) : DenL n L [] F := fun i h hh => by simp at hh
theorem DenL.push {n : Nat} {L : List Bdd.Nd} {hs : List Nat} {F : Nat → (Nat → Bool) → Bool} {h m : Nat} (d : DenL n L hs F) (hm : hs.length = m) (e : Den n L h (F m)) : DenL n L (hs ++ [h]) F := fun i x hx => by
  rcases Nat.lt_or_ge i hs.length with hi | hi
  · rw [List.getElem?_append_left hi] at hx; exact d i x hx
  · have : i = hs.length := by have := (List.getElem?_eq_some_iff.1 hx).1; simp at this; omega
    subst this
    simp at hx
    subst hx; rw [hm]; exact e

/-- The store has gone on; a slice of handles has been made beside it. -/
structure WOut (s n room : Nat) (off : Bool) (B : List Nat) (L : List Bdd.Nd) (w : World) (B' : List Nat) (L' : List Bdd.Nd) (w' : World) (c : Nat) (v : Value) (hs : List Nat) : Prop where
  evo : Evo s n room off B L w B' L' w' c
  row : HsAt w' v hs
  own : ∀ k, v.ownBlock = some k → w.heap.size ≤ k ∧ k ∉ B'

section
variable {w w' : World} {s n room : Nat} {off : Bool} {B : List Nat} {L : List Bdd.Nd}

theorem WOut.start (h : Sto w s B n room off L) : WOut s n room off B L w B L w 0 (.slice none 0 0) [] := ⟨Evo.refl h, HsAt.nil w, fun k hk => by cases hk⟩

theorem WOut.step {B' B2 : List Nat} {L' L2 : List Bdd.Nd} {w2 : World} {c c2 : Nat} {v : Value} {hs : List Nat} (h : WOut s n room off B L w B' L' w' c v hs) (e : Evo s n room off B' L' w' B2 L2 w2 c2) : WOut s n room off B L w B2 L2 w2 (c + c2) v hs :=
  ⟨h.evo.trans e, h.row.fr e.fr (fun k hk => (h.own k hk).2), fun k hk => ⟨(h.own k hk).1, fun hb => by
    rcases e.own k hb with h1 | h1
    · exact (h.own k hk).2 h1
    · have := h.row.lt hk; omega⟩⟩

theorem WOut.push {B' : List Nat} {L' : List Bdd.Nd} {w1 : World} {c b g cap m : Nat} {v : Value} {hs : List Nat} {o : Obj} (h : WOut s n room off B L w B' L' w' c v hs) (hm : hs.length = m)
    (hown : w1.ownsRow 0 28 1 (.slice (some ⟨g, 0, none⟩) (m + 1) cap) (m + 1) (hs.map (fun (h : Nat) => Value.int .u32 (h : Int)) ++ [.int .u32 (b : Int)])) (hg : (w'.alloc o).grownBy w1 v.ownBlock) (hat : v.ownBlock = some g ∨ g = w'.heap.size + 1) :
    WOut s n room off B L w B' L' w1 c (.slice (some ⟨g, 0, none⟩) (m + 1) cap) (hs ++ [b]) := by
  subst hm
  have s1 := h.evo.fr.size
  have F : Fr v.ownBlock.toList w' w1 := ((Fr.refl _ w').alloc o).grown hg (fun k hk => .inl (by simp [hk]))
  have hBlt := h.evo.sto.mem.2
  have hsto : Sto w1 s B' n room off L' := h.evo.sto.fr F (fun k hk hm => by
    simp only [Option.mem_toList] at hm
    exact (h.own k hm).2 hk)
  refine ⟨⟨hsto, h.evo.fr.trans F (fun x hx => ?_), h.evo.own, h.evo.gr⟩, ?_, fun k hk => ?_⟩
  · simp only [Option.mem_toList] at hx
    exact .inr (h.own x hx).1
  · unfold HsAt; rw [List.length_append, List.map_append]; exact hown
  · simp only [Value.ownBlock, Option.some.injEq] at hk
    subst hk
    rcases hat with h1 | h1
    · exact h.own _ h1
    · exact ⟨by omega, fun hb => by have := hBlt _ hb; omega⟩

theorem long_any (l : Nat) (w : World) (h1 : 1 ≤ l) (h8 : l ≤ 8) :
    Calls Tryz.prog 155 #[.int .i64 (l : Int)] w fun e w' => e = .returned (.bool true) ∧ w = w' := by
  have e8 : decide ((l : Int) ≤ 8) = true := by simp; omega
  go_enter Tryz.func155, Tryz.ntmps155
  go_wp2
  go_ret
  exact ⟨rfl, rfl⟩
theorem long_not (l : Nat) (w : World) (h : l < 1 ∨ 8 < l) :
    Calls Tryz.prog 155 #[.int .i64 (l : Int)] w fun e w' => e = .returned (.bool false) ∧ w = w' := by
  go_enter Tryz.func155, Tryz.ntmps155
  rcases h with h | h
  · have e : l = 0 := by omega
    subst e
    go_wp2
    go_ret
    exact ⟨rfl, rfl⟩
  · have e1 : ¬ (l : Int) ≤ 8 := by omega
    have e2 : (1 : Int) ≤ l := by omega
    have e8 : decide ((l : Int) ≤ 8) = false := by simp; omega
    go_wp2
    go_ret
    exact ⟨rfl, rfl⟩

theorem intsAt_get {w : World} {v : Value} {vs : List Nat} (h : IntsAt w v vs) {i x : Nat} (hx : vs[i]? = some x) : ∃ g cap, v = .slice (some ⟨g, 0, none⟩) vs.length cap ∧ w.cell? ⟨g, i, none⟩ = some (.int .i64 (x : Int)) := by
  obtain ⟨g, cap, e, _, c⟩ := row_get h (i := i) (x := .int .i64 (x : Int)) (by rw [List.getElem?_map, hx]; rfl)
  exact ⟨g, cap, e, c⟩

set_option maxHeartbeats 2000000 in
set_option maxRecDepth 4000 in
theorem vars_any' (h : Sto w s B n room off L) {vv : Value} {vs : List Nat} (hI : IntsAt w vv vs) (hown : ∀ k, vv.ownBlock = some k → k ∉ B) (h1 : 1 ≤ vs.length) (h8 : vs.length ≤ 8) (hv : ∀ (i x : Nat), vs[i]? = some x → x < n) (hr : Bdd.high L + 31 * vs.length + 256 < room) :
    Calls Tryz.prog 87 #[.pointer (some ⟨s, 0, none⟩), vv] w fun e w' => ∃ v hs B' L', e = .returned (.tuple #[v, .int .i64 0]) ∧ WOut s n room off B L w B' L' w' (31 * vs.length) v hs ∧ hs.length = vs.length ∧ DenL n L' hs (fun i y => y (vs.getD i 0)) := by
  obtain ⟨i0, hi, hz0, hz1, hz2⟩ := info_parts Tryz.info_handle
  obtain ⟨a, cap0, rfl, hcap0⟩ := row_shape hI
  have HR := Lib.hid hr
  have HV := Lib.hid hv
  have HO := Lib.hid hown
  clear hr hv hown
  go_enter Tryz.func87, Tryz.ntmps87
  go_wp2_with fail
  refine (long_any vs.length _ h1 h8).mono ?_
  rintro e w' ⟨rfl, rfl⟩
  go_wp2_with fail
  go_loopg [19] vs.length (fun kk i wr => ∃ j : Nat, j ≤ vs.length ∧ kk = vs.length - j ∧ i = .int .i64 (j : Int) ∧ w = wr)
  case atStart => exact ⟨0, by omega, by omega, rfl, rfl⟩
  case round =>
    obtain ⟨j, hj, hk, rfl, rfl⟩ := hrel
    by_cases hlt : j < vs.length
    · obtain ⟨x, hx⟩ : ∃ x, vs[j]? = some x := ⟨vs[j], List.getElem?_eq_getElem hlt⟩
      have hxn := HV.out j x hx
      obtain ⟨g, cap, e, cg⟩ := intsAt_get hI hx
      obtain ⟨rfl, rfl⟩ : a = some ⟨g, 0, none⟩ ∧ cap0 = cap := by simpa using e
      clear e hx
      go_wp2_with fail
      refine (sto_vars h).mono ?_
      rintro e w' ⟨rfl, rfl⟩
      go_wp2
      go_roundg (vs.length - (j + 1))
      case measure => omega
      case rel => exact ⟨j + 1, by omega, rfl, by go_num, rfl⟩
    · have e : j = vs.length := by omega
      subst e
      go_wp2_with fail
      go_loopg [8, 34] vs.length (fun kk v i wr => ∃ (j : Nat) (hs : List Nat) (B' : List Nat) (L' : List Bdd.Nd), j ≤ vs.length ∧ kk = vs.length - j ∧ i = .int .i64 (j : Int) ∧ hs.length = j ∧ WOut s n room off B L w B' L' wr (31 * j) v hs ∧ DenL n L' hs (fun i y => y (vs.getD i 0)))
      case atStart => exact ⟨0, [], B, L, by omega, by omega, rfl, rfl, WOut.start h, DenL.nil _ _ _⟩
      case round =>
        obtain ⟨j, hs, B', L', hj, hk, rfl, hl, hW, hD⟩ := hrel
        by_cases hlt : j < vs.length
        · obtain ⟨x, hx⟩ : ∃ x, vs[j]? = some x := ⟨vs[j], List.getElem?_eq_getElem hlt⟩
          have hxn := HV.out j x hx
          have hIr := row_fr hI hW.evo.fr HO.out
          obtain ⟨g, cap, e, cg⟩ := intsAt_get hIr hx
          obtain ⟨rfl, rfl⟩ : a = some ⟨g, 0, none⟩ ∧ cap0 = cap := by simpa using e
          have hgx : vs.getD j 0 = x := by rw [List.getD_eq_getElem?_getD, hx]; rfl
          have HGX := Lib.hid hgx
          have HW := Lib.hid hW
          have HD := Lib.hid hD
          clear e hx hIr hgx hW hD
          go_wp2_with fail
          refine (var_any HW.out.evo.sto hxn).mono ?_
          intro e w2 hp
          have hhi := HW.out.evo.gr.hi
          have hroom := HR.out
          obtain ⟨B2, L2, hh, hev, rfl, hden⟩ := OpPost.ok hp (by omega)
          have hW2 := HW.out.step hev
          have hD2 := (HD.out.more HW.out.evo.gr.wf hev.gr).push hl (F := fun i y => y (vs.getD i 0)) (by rw [HGX.out]; exact hden)
          have HW2 := Lib.hid hW2
          have HD2 := Lib.hid hD2
          clear hp hev hden hW2 hD2 hhi hroom
          go_wp2_with (at_builtin; go_loud (refine wpList_append_lies _ rfl _ _ _ rfl 0 28 i0 (.int .u32 0) 1 4 Tryz.underlying24 hi hz0 hz1 hz2 rfl (by omega) u8 hs.length _ rfl (HW2.out.row.alloc _) ⟨w2.heap.size, 0, none⟩ 1 1 [.int .u32 (hh : Int)] rfl rfl ?hnews ?h1 (by omega) ?h63 (by omega) (Nat.zero_le _) (w2.heap.size + 1) (by simp) ?_))
          case hnews =>
            intro i u hi
            have : i = 0 := by simpa using (List.getElem?_eq_some_iff.1 hi).1
            subst this
            simp only [List.getElem?_cons_zero, Option.some.injEq] at hi
            subst hi
            exact (Blk.new w2 #[.int .u32 (hh : Int)] 28).cell 0 rfl
          case h1 =>
            intro u hu
            simp only [List.mem_singleton] at hu
            subst hu; rfl
          case h63 => unfold maxLen; omega
          · intro g' cap' w3 hown3 hgrow hat hglt
            have hW3 := HW2.out.push hl hown3 hgrow hat
            have HW3 := Lib.hid hW3
            clear hW3 hown3 hgrow hat
            go_wp2
            go_roundg (vs.length - (j + 1))
            case measure => omega
            case rel => exact ⟨j + 1, _, B2, L2, by omega, rfl, by go_num, by simp [hl], HW3.out, HD2.out⟩
        · have e : j = vs.length := by omega
          subst e
          have HW := Lib.hid hW
          have HD := Lib.hid hD
          clear hW hD
          go_wp2
          go_ret2
          exact ⟨_, hs, B', L', rfl, HW.out, hl, HD.out⟩
end
end Go.Proofs.YtiojnjihbidbiaaGreat

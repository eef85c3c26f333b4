/- spinneylaw26, walked: words made of tables; tables of words. -/
import Derived.Test.YtiojnjihbidbiaaGreatReck1
namespace Go.Proofs.YtiojnjihbidbiaaGreat
open Go.RowKit
attribute [local go_sem ↓] Go.wp_at_zero Go.wp_at_succ
set_option linter.unusedVariables false

section
variable {w w' : World} {s n room : Nat} {off : Bool} {B : List Nat} {L : List Bdd.Nd}

def WmRel (s n room : Nat) (off : Bool) (B : List Nat) (L : List Bdd.Nd) (w : World) (Fs : List Fun) (j : Nat) (v : Value) (wr : World) : Prop :=
  ∃ (hs : List Nat) (B' : List Nat) (L' : List Bdd.Nd), hs.length = j ∧ WOut s n room off B L w B' L' wr (31 * j) v hs ∧ DenL n L' hs (FL Fs)

theorem TabsAt.evo {v : Value} {Fs : List Fun} {B' : List Nat} {L' : List Bdd.Nd} {c : Nat} (h : TabsAt w v Fs) (e : Evo s n room off B L w B' L' w' c) (hb : ∀ k, v.ownBlock = some k → k ∉ B) : TabsAt w' v Fs := row_fr h e.fr hb

set_option maxHeartbeats 1000000 in
set_option maxRecDepth 4000 in
theorem wmade_any (h : Sto w s B n room off L) {Fs : List Fun} {fv : Value} (hT : TabsAt w fv Fs) (oT : ∀ k, fv.ownBlock = some k → k ∉ B) (hl : Fs.length ≤ 4) (hd : ∀ (i : Nat) (F : Fun), Fs[i]? = some F → Dep n F) (hr : Bdd.high L + 31 * Fs.length + 256 < room ∨ n ≤ 3 ∧ 256 < room) :
    Calls Tryz.prog 39 #[.pointer (some ⟨s, 0, none⟩), fv] w fun e w' => ∃ (v : Value) (hs : List Nat) (B' : List Nat) (L' : List Bdd.Nd), e = .returned (.tuple #[v, .bool true]) ∧ WOut s n room off B L w B' L' w' (31 * Fs.length) v hs ∧ hs.length = Fs.length ∧ DenL n L' hs (FL Fs) := by
  obtain ⟨i0, hi, hz0, hz1, hz2⟩ := info_parts Tryz.info_handle
  obtain ⟨a, cap, rfl, _⟩ := row_shape hT
  have HS := Lib.hid h
  have HT := Lib.hid hT
  have HO := Lib.hid oT
  have HD := Lib.hid hd
  have HR := Lib.hid hr
  have hl4 : (Fs.length : Int) ≤ 4 := by omega
  clear h hT oT hd hr
  go_enter Tryz.func39, Tryz.ntmps39
  go_wp2_with fail
  go_loopg [6, 7] Fs.length (fun kk v i wr => ∃ j : Nat, j ≤ Fs.length ∧ kk = Fs.length - j ∧ i = .int .i64 (j : Int) ∧ WmRel s n room off B L w Fs j v wr)
  case atStart => exact ⟨0, by omega, by omega, rfl, [], B, L, rfl, WOut.start HS.out, DenL.nil _ _ _⟩
  case round =>
    obtain ⟨j, hj, hk, rfl, hs, B', L', hlen, hW, hDn⟩ := hrel
    by_cases hlt : j < Fs.length
    · obtain ⟨F, hF1⟩ : ∃ F, Fs[j]? = some F := ⟨Fs[j], List.getElem?_eq_getElem hlt⟩
      obtain ⟨g, cap', e, _, c0, c1, c2, c3⟩ := (HT.out.evo hW.evo HO.out).get hF1
      injection e with e1 e3 e4
      subst e1 e4
      have hFL := FL_get hF1
      have hdF := HD.out j F hF1
      have hhi := hW.evo.gr.hi
      have hroom : Bdd.high L' + 31 + 256 < room ∨ n ≤ 3 ∧ 256 < room := by have := HR.out; omega
      have hlt2 : (j : Int) < (Fs.length : Int) := by omega
      have HW := Lib.hid hW
      have HDN := Lib.hid hDn
      have HFL := Lib.hid hFL
      clear e3 hF1 hW hDn hhi hFL
      go_wp2_with fail
      with_reducible refine (pmake_any HW.out.evo.sto hdF hroom).mono ?_
      rintro e w1 ⟨h1, B1, L1, rfl, hev, q⟩
      have hW1 := HW.out.step hev
      have hD1 := (HDN.out.more HW.out.evo.gr.wf hev.gr).push hlen (F := FL Fs) (by rw [HFL.out]; exact q)
      have HW1 := Lib.hid hW1
      have HD1 := Lib.hid hD1
      clear hW1 hD1 hev q
      go_wp2_with (at_builtin; go_loud (refine wpList_append_lies _ rfl _ _ _ rfl 0 28 i0 (.int .u32 0) 1 4 Tryz.underlying24 hi hz0 hz1 hz2 rfl (by omega) u6 hs.length _ rfl (HW1.out.row.alloc _) ⟨w1.heap.size, 0, none⟩ 1 1 [.int .u32 (h1 : Int)] rfl rfl ?hnews ?h1 (by omega) ?h63 (by omega) (Nat.zero_le _) (w1.heap.size + 1) (by simp) ?_))
      case hnews =>
        intro i u hi
        have : i = 0 := by simpa using (List.getElem?_eq_some_iff.1 hi).1
        subst this
        simp only [List.getElem?_cons_zero, Option.some.injEq] at hi
        subst hi
        exact (Blk.new w1 #[.int .u32 (h1 : Int)] 28).cell 0 rfl
      case h1 =>
        intro u hu
        simp only [List.mem_singleton] at hu
        subst hu; rfl
      case h63 => unfold maxLen; omega
      · intro g' cap' w3 hown3 hgrow hat hglt
        have hW3 := HW1.out.push hlen hown3 hgrow hat
        have hrel : WmRel s n room off B L w Fs (j + 1) (.slice (some ⟨g', 0, none⟩) (j + 1) cap') w3 :=
          ⟨_, B1, L1, by simp [hlen], ⟨hW3.evo.mono (by omega), hW3.row, hW3.own⟩, HD1.out⟩
        have HREL := Lib.hid hrel
        clear hW3 hrel hown3 hgrow hat
        go_wp2
        go_roundg (Fs.length - (j + 1))
        case measure => omega
        case rel => exact ⟨j + 1, by omega, rfl, by go_num, HREL.out⟩
    · have e : Fs.length = j := by omega
      subst e
      have HW := Lib.hid hW
      have HDN := Lib.hid hDn
      clear hW hDn
      go_wp2
      go_ret2
      exact ⟨_, hs, B', L', rfl, HW.out, hlen, HDN.out⟩

theorem Tryz.info_boolslice : (Tryz.prog.info? 64).map (fun i => (i.zero, i.size, i.bytes)) = some (some (.slice none 0 0), 1, 24) := by kernel_rfl
theorem Tryz.info_bool : (Tryz.prog.info? 4).map (fun i => (i.zero, i.size, i.bytes)) = some (some (.bool false), 1, 1) := by kernel_rfl

theorem run_make_ones {P : Program} (w : World) (t e : TypeId) (z z' : Value) (b : Nat) (ht : P.underlying t = some (.slice e)) (hi : (P.info? e).map (fun i => (i.zero, i.size, i.bytes)) = some (some z, 1, b))
    (hz : z.cells = #[z']) (n : Nat) (hb : b * n ≤ 281474976710656) (hn : n ≤ 262144) :
    (Instr.makeSlice t (.int .i64 (n : Int)) (.int .i64 (n : Int))).run P w = .ok (.slice (some ⟨w.heap.size, 0, none⟩) n n) (w.alloc (.cells (List.replicate n z').toArray e)) := by
  obtain ⟨i, h1, h2, h3, h4⟩ := info_parts hi
  have := run_make (P := P) w t e i z ht h1 h2 .i64 .i64 (n : Int) (n : Int) (by omega) (by omega) (by rw [h4]; omega) (by omega)
  rw [this, h3, hz, Int.toNat_natCast, Nat.mul_one]
  congr 3
  apply Array.ext'
  rw [toList_madeCells_one]

theorem bcells_zero (F : Fun) (N : Nat) : (List.replicate N (Value.bool false)).toArray = ((List.range N).map fun x => Value.bool (decide (x < 0) && F (asg x))).toArray := by
  congr 1
  apply List.ext_getElem
  · simp
  · intro i h1 h2
    simp

theorem make_bools (w : World) (F : Fun) : (Instr.makeSlice 64 (.int .i64 256) (.int .i64 256)).run Tryz.prog w = .ok (.slice (some ⟨w.heap.size, 0, none⟩) 256 256) (w.alloc (.cells (bcells F 0) 4)) := by
  have h := run_make_ones (P := Tryz.prog) w 64 4 (.bool false) (.bool false) 1 Tryz.underlying64 Tryz.info_bool rfl 256 (by omega) (by omega)
  rw [bcells_zero F 256] at h
  exact h

/-- A slice of tables of truth values that is being made. -/
def TbRel (w : World) (Fs : List Fun) (v : Value) (wr : World) (vs : List Value) : Prop :=
  vs.length = Fs.length ∧ wr.ownsRow 0 64 1 v Fs.length vs ∧ (∀ (i : Nat) u F, vs[i]? = some u → Fs[i]? = some F → BtAt wr u F) ∧ Fr [] w wr ∧ ∀ k, v.ownBlock = some k → w.heap.size ≤ k
theorem TbRel.start (w : World) : TbRel w [] (.slice none 0 0) w [] := ⟨rfl, ⟨rfl, .inl ⟨rfl, rfl⟩⟩, fun i u F hu => by simp at hu, Fr.refl _ _, fun k hk => by cases hk⟩
theorem TbRel.then {Fs : List Fun} {v : Value} {wr w1 : World} {vs : List Value} (h : TbRel w Fs v wr vs) (f : Fr [] wr w1) : TbRel w Fs v w1 vs :=
  ⟨h.1, row_fr h.2.1 f (by simp), fun i u F hu hF => (h.2.2.1 i u F hu hF).fr f, h.2.2.2.1.then f, h.2.2.2.2⟩
theorem TbRel.done {Fs : List Fun} {v : Value} {wr : World} {vs : List Value} (h : TbRel w Fs v wr vs) : BtsAt wr v Fs := ⟨vs, h.1, h.2.1, h.2.2.1⟩
theorem TbRel.push {Fs : List Fun} {F : Fun} {v : Value} {wr w3 : World} {vs : List Value} {g0 cap b j : Nat} {o : Obj} (h : TbRel w Fs v wr vs) (hl : Fs.length = j) (hB : Blk wr b (bcells F 256) 4)
    (hown : w3.ownsRow 0 64 1 (.slice (some ⟨g0, 0, none⟩) (j + 1) cap) (j + 1) (vs ++ [.slice (some ⟨b, 0, none⟩) 256 256])) (hg : (wr.alloc o).grownBy w3 v.ownBlock) (hat : v.ownBlock = some g0 ∨ g0 = wr.heap.size + 1) :
    TbRel w (Fs ++ [F]) (.slice (some ⟨g0, 0, none⟩) (j + 1) cap) w3 (vs ++ [.slice (some ⟨b, 0, none⟩) 256 256]) := by
  subst hl
  obtain ⟨h1, h2, h3, h4, h5⟩ := h
  have far : ∀ (G : Fun) (k : Nat), Blk wr k (bcells G 256) 4 → Blk w3 k (bcells G 256) 4 := fun G k hk => by
    have ne : v.ownBlock ≠ some k := fun e => by
      obtain ⟨_, h2⟩ := h2
      rcases h2 with ⟨rfl, _⟩ | ⟨g, cp, cur, rfl, _, hgb, _⟩
      · cases e
      · simp only [Value.ownBlock, Option.some.injEq] at e
        subst e
        unfold Blk at hk
        rw [hgb] at hk
        simp at hk
    have hka := hk.alloc o
    have hlt := hka.lt
    unfold Blk at hka ⊢
    rw [hg.block k hlt (Ne.symm ne)]; exact hka
  refine ⟨by simp [h1], by rw [List.length_append]; exact hown, fun i u G hu hG => ?_, (h4.alloc o).grown hg (fun k hk => .inr (h5 k hk)), fun k hk => ?_⟩
  · rcases Nat.lt_or_ge i Fs.length with hi | hi
    · rw [List.getElem?_append_left (by omega)] at hu hG
      obtain ⟨k, e, hk⟩ := h3 i u G hu hG
      exact ⟨k, e, far G k hk⟩
    · have : i = Fs.length := by
        have := (List.getElem?_eq_some_iff.1 hG).1
        simp at this; omega
      subst this
      rw [List.getElem?_append_right (Nat.le_refl _), Nat.sub_self] at hG
      rw [← h1, List.getElem?_append_right (Nat.le_refl _), Nat.sub_self] at hu
      obtain rfl := Option.some.inj hG
      obtain rfl := Option.some.inj hu
      exact ⟨b, rfl, far _ b hB⟩
  · simp only [Value.ownBlock, Option.some.injEq] at hk
    subst hk
    rcases hat with h | h
    · exact h5 _ h
    · have := h4.size; omega

def rangeF (F : Nat → Fn) (m : Nat) : List Fun := (List.range m).map F
theorem rangeF_len (F : Nat → Fn) (m : Nat) : (rangeF F m).length = m := by simp [rangeF]
theorem rangeF_succ (F : Nat → Fn) (m : Nat) : rangeF F (m + 1) = rangeF F m ++ [F m] := by simp [rangeF, List.range_succ]

set_option maxHeartbeats 1000000 in
set_option maxRecDepth 4000 in
theorem tables_any (h : Sto w s B n room off L) {lv : Value} {hs : List Nat} {F : Nat → Fn} {m : Nat} (hA : HsAt w lv hs) (la : hs.length = m) (hl : m ≤ 4) (d : DenL n L hs F) :
    Calls Tryz.prog 41 #[.pointer (some ⟨s, 0, none⟩), lv] w fun e w' => ∃ v, e = .returned (.tuple #[v, .bool true]) ∧ BtsAt w' v (rangeF F m) ∧ Fr [] w w' := by
  obtain ⟨i0, hi, hz0, hz1, hz2⟩ := info_parts Tryz.info_boolslice
  obtain ⟨a, cap, e, _⟩ := hA.shape
  rw [la] at e
  subst e
  have hl4 : (m : Int) ≤ 4 := by omega
  have HS := Lib.hid h
  have HA := Lib.hid hA
  have HD := Lib.hid d
  clear h hA d
  go_enter Tryz.func41, Tryz.ntmps41
  go_wp2_with fail
  go_loopg [6, 7] m (fun kk v i wr => ∃ (j : Nat) (vs : List Value), j ≤ m ∧ kk = m - j ∧ i = .int .i64 (j : Int) ∧ TbRel w (rangeF F j) v wr vs)
  case atStart => exact ⟨0, [], by omega, by omega, rfl, TbRel.start w⟩
  case round =>
    obtain ⟨j, vs, hj, hk, rfl, hR⟩ := hrel
    by_cases hlt : j < m
    · obtain ⟨x, hx⟩ : ∃ x, hs[j]? = some x := ⟨hs[j], List.getElem?_eq_getElem (by omega)⟩
      obtain ⟨g, cap', e, cg⟩ := (HA.out.fr hR.2.2.2.1 (by simp)).get hx
      injection e with e1 e3 e4
      subst e1 e4
      have dx := HD.out j x hx
      have eF : Bdd.D n (Bdd.tab L) x = F j := funext dx.2
      have hlt2 : (j : Int) < (m : Int) := by omega
      have HR := Lib.hid hR
      have HF0 := Lib.hid (HR.out.2.2.2.1)
      have HE := Lib.hid eF
      have HN := Lib.hid dx.1
      clear e3 hx hR dx eF
      go_wp2_with fail
      with_reducible refine (pfunc_any (HS.out.fr HF0.out (by simp)) HN.out).mono ?_
      rw [HE.out]
      rintro e w1 ⟨rfl, hF1⟩
      obtain ⟨wR, hwR⟩ : ∃ wR, wR = wr := ⟨_, rfl⟩
      subst hwR
      have hmk := make_bools (w1.alloc (.cells (tcells (F j)) 49)) (F j)
      have hsz : (w1.alloc (.cells (tcells (F j)) 49)).heap.size = w1.heap.size + 1 := World.size_alloc _ _
      have B0 := Blk.new w1 (tcells (F j)) 49
      have B1 := B0.alloc (.cells (bcells (F j) 0) 4)
      have B2 := Blk.new (w1.alloc (.cells (tcells (F j)) 49)) (bcells (F j) 0) 4
      rw [hsz] at hmk B2
      have F2 : Fr [] w1 ((w1.alloc (.cells (tcells (F j)) 49)).alloc (.cells (bcells (F j) 0) 4)) := ((Fr.refl [] w1).alloc _).alloc _
      have HB1 := Lib.hid B1
      have HB2 := Lib.hid B2
      have HF2 := Lib.hid (hF1.then F2)
      clear B0 B1 B2 F2 hsz
      go_wp2_with fail
      clear hmk
      go_loopg [11] 256 (fun kk i wi => ∃ y : Nat, y ≤ 256 ∧ kk = 256 - y ∧ i = .int .i64 (y : Int) ∧ Fr [] wR wi ∧ Blk wi w1.heap.size (tcells (F j)) 49 ∧ Blk wi (w1.heap.size + 1) (bcells (F j) y) 4)
      case atStart => exact ⟨0, by omega, by omega, rfl, HF2.out, HB1.out, HB2.out⟩
      case round =>
        obtain ⟨y, hy, hk, rfl, hFi, hBi, hbi⟩ := hrel
        have hwi := hF1.size
        by_cases hy2 : y < 256
        · obtain ⟨c0, c1, c2, c3⟩ := hBi.cells4
          have hyi : (y : Int) < 256 := by omega
          have HFI := Lib.hid hFi
          have HBI := Lib.hid hBi
          have HbI := Lib.hid hbi
          clear hFi hBi hbi
          go_wp2_with fail
          with_reducible refine (teval_any (F j) y _ hy2).mono ?_
          rintro e w4 ⟨rfl, hF4⟩
          have hb4 := HbI.out.fr hF4 (by simp)
          have c4 := hb4.cell y (bcells_get (F j) y hy2)
          have f4 := hb4.free y
          have hb5 := hb4.set y (.bool (F j (asg y)))
          rw [bcells_set (F j) hy2] at hb5
          have ht5 := (HBI.out.fr hF4 (by simp)).other (p := ⟨w1.heap.size + 1, y, none⟩) (.bool (F j (asg y))) (by show w1.heap.size ≠ w1.heap.size + 1; omega)
          have hF5 : Fr [] wR (w4.setCell ⟨w1.heap.size + 1, y, none⟩ (.bool (F j (asg y)))) := (HFI.out.then hF4).setCell _ (.inr (by show wR.heap.size ≤ w1.heap.size + 1; omega))
          have HB5 := Lib.hid hb5
          have HT5 := Lib.hid ht5
          have HF5 := Lib.hid hF5
          clear hb4 hb5 ht5 hF5 hF4
          go_wp2
          go_roundg (256 - (y + 1))
          case measure => omega
          case rel => exact ⟨y + 1, by omega, rfl, by go_num, HF5.out, HT5.out, HB5.out⟩
        · have e : y = 256 := by omega
          subst e
          have hR2 := HR.out.then hFi
          have HR2 := Lib.hid hR2
          have HbI := Lib.hid hbi
          have hrl := rangeF_len F j
          have hvl : vs.length = j := by rw [HR2.out.1, hrl]
          have hown := HR2.out.2.1
          rw [hrl] at hown
          have HOW := Lib.hid (hown.alloc (.cells #[.slice (some ⟨w1.heap.size + 1, 0, none⟩) 256 256] 64))
          have hwi := hF1.size
          clear hR2 hFi hBi hbi hown
          go_wp2_with (at_builtin; go_loud (refine wpList_append_lies _ rfl _ _ _ rfl 0 64 i0 (.slice none 0 0) 1 24 Tryz.underlying57 hi hz0 hz1 hz2 rfl (by omega) u6 j _ rfl HOW.out ⟨wr.heap.size, 0, none⟩ 1 1 [.slice (some ⟨w1.heap.size + 1, 0, none⟩) 256 256] rfl rfl ?hnews ?h1 (by omega) ?h63 (by omega) (Nat.zero_le _) (wr.heap.size + 1) (by simp) ?_))
          case hnews =>
            intro i u hi
            have : i = 0 := by simpa using (List.getElem?_eq_some_iff.1 hi).1
            subst this
            simp only [List.getElem?_cons_zero, Option.some.injEq] at hi
            subst hi
            exact (Blk.new wr #[.slice (some ⟨w1.heap.size + 1, 0, none⟩) 256 256] 64).cell 0 rfl
          case h1 =>
            intro u hu
            simp only [List.mem_singleton] at hu
            subst hu; rfl
          case h63 => unfold maxLen; omega
          · intro g' cap' w5 hown3 hgrow hat hglt
            have hrel := HR2.out.push hrl HbI.out hown3 hgrow hat
            rw [← rangeF_succ] at hrel
            have HREL := Lib.hid hrel
            clear hrel hown3 hgrow hat
            go_wp2
            go_roundg (m - (j + 1))
            case measure => omega
            case rel => exact ⟨j + 1, _, by omega, rfl, by go_num, HREL.out⟩
    · have e : m = j := by omega
      subst e
      have HR := Lib.hid hR
      clear hR
      go_wp2
      go_ret2
      exact ⟨_, rfl, HR.out.done, HR.out.2.2.2.1⟩
end
end Go.Proofs.YtiojnjihbidbiaaGreat

/- The word laws' known answers. -/
import Derived.Test.YtiojnjihbidbiaaGreatWordB
namespace Go.Proofs.YtiojnjihbidbiaaGreat
open Go.RowKit
attribute [local go_sem ↓] Go.wp_at_zero Go.wp_at_succ
set_option linter.unusedVariables false

theorem known_sum (i : Nat) (hi : i < 2) (y : Nat → Bool) : sumF addC (conF 1) (conF 1) i y = conF 2 i y := by
  match i, hi with
  | 0, _ => simp [sumF, cry, conF]
  | 1, _ => simp [sumF, cry, conF, addC]
theorem known_over (y : Nat → Bool) : cry addC (conF 1) (conF 1) 2 y = false := by simp [cry, conF, addC]

set_option maxHeartbeats 2000000 in
set_option maxRecDepth 4000 in
theorem known26 (w : World) : Calls Tryz.prog 24 #[] w fun e w' => e = .returned (.bool true) ∧ Fr [] w w' := by
  go_enter Tryz.func24, Tryz.ntmps24
  go_wp2_with fail
  refine (snew_any 4 2000 _ (by omega) (by omega) (by omega) (by omega)).mono ?_
  rintro e w1 ⟨s, B, rfl, hs, hF, hB⟩
  have S1 : Ses w w1 s B 4 2000 false [] := ⟨hs, hF, hB⟩
  clear hs hF hB
  have FI : Fr [] w1 (w1.alloc (.cells #[.int .i64 0, .int .i64 1] 3)) := (Fr.refl [] w1).alloc _
  have hI : IntsAt (w1.alloc (.cells #[.int .i64 0, .int .i64 1] 3)) (.slice (some ⟨w1.heap.size, 0, none⟩) 2 2) [0, 1] := row_lit (Blk.new w1 #[.int .i64 0, .int .i64 1] 3) (by unfold maxLen; simp)
  have S2 := S1.then FI
  go_wp2_with fail
  refine (vars_any' S2.sto hI (fun k hk hb => by
    simp only [Value.ownBlock, Option.some.injEq] at hk
    subst hk
    exact Nat.lt_irrefl _ (S1.sto.mem.2 _ hb)) (by simp) (by simp) (fun i x hx => by
      match i, hx with
      | 0, hx => obtain rfl := Option.some.inj hx; omega
      | 1, hx => obtain rfl := Option.some.inj hx; omega
      | i + 2, hx => simp at hx) (by refine .inl ?_; show Bdd.high [] + 31 * 2 + 256 < 2000; simp [Bdd.high])).mono ?_
  rintro e w2 ⟨va, ha, B2, L2, rfl, hW, hl, hD⟩
  have S3 := S2.evo hW.evo
  have A3 := hW.at
  have hh3 : Bdd.high L2 ≤ 62 := by have := hW.evo.gr.hi; simpa [Bdd.high] using this
  have HD := Lib.hid hD
  clear hW hD S1 S2 FI hI
  go_wp2_with fail
  refine (const_any 1 2 _ (by omega) (by omega) (by omega)).mono ?_
  rintro e w3 ⟨vb, rfl, hb⟩
  have S4 := S3.then hb.2.1
  have A4 := A3.then hb.2.1
  have B4 := hb.at S3.sto.mem.2
  clear hb S3 A3
  go_wp2_with fail
  refine (const_any 1 2 _ (by omega) (by omega) (by omega)).mono ?_
  rintro e w4 ⟨vc, rfl, hc⟩
  have S5 := S4.then hc.2.1
  have A5 := A4.then hc.2.1
  have B5 := B4.then hc.2.1
  have C5 := hc.at S4.sto.mem.2
  clear hc S4 A4 B4
  go_wp2_with fail
  refine (add_word (m := 2) S5.sto B5.row C5.row B5.own C5.own (constL_len 1 2) (constL_len 1 2) (by omega) (by omega) (den_const 1 2) (den_const 1 2) (by omega)).mono ?_
  rintro e w5 ⟨vd, hd, kd, B6, L6, rfl, hW, hl2, hD2, hK⟩
  have S6 := S5.evo hW.evo
  have A6 := A5.evo hW.evo
  have D6 := hW.at
  have hda : hd = [0, 1] := by
    have := hD2.eq (den_const 2 2) S6.sto.wf hl2 (constL_len 2 2) (fun i hi y => known_sum i hi y)
    rw [this]; rfl
  have hka : kd = 0 := hK.eq Den.zero S6.sto.wf known_over
  have HD6 := Lib.hid (HD.out.more S5.sto.wf hW.evo.gr)
  subst hda
  subst hka
  clear hW hl2 hD2 hK S5 A5 B5 C5 HD
  go_wp2_with fail
  refine (eval_any (m := 2) (x := 6) S6.sto A6.row A6.own (by rw [hl]; rfl) (by omega) (by omega) HD6.out (by omega)).mono ?_
  rintro e w6 ⟨rfl, hF6⟩
  have S7 := S6.then hF6
  have A7 := A6.then hF6
  have D7 := D6.then hF6
  clear S6 A6 D6 hF6
  go_wp2_with fail
  refine (mul_nil (m := 2) S7.sto A7.row (by rw [hl]; rfl) (by omega) (by omega) HD6.out).mono ?_
  rintro e w7 ⟨rfl, hF7⟩
  have S8 := S7.then hF7
  have D8 := D7.then hF7
  clear S7 A7 D7 hF7
  have FI : Fr [] w7 (w7.alloc (.cells #[.int .i64 4] 3)) := (Fr.refl [] w7).alloc _
  have hI : IntsAt (w7.alloc (.cells #[.int .i64 4] 3)) (.slice (some ⟨w7.heap.size, 0, none⟩) 1 1) [4] := row_lit (Blk.new w7 #[.int .i64 4] 3) (by unfold maxLen; simp)
  have S9 := S8.then FI
  have D9 := D8.then FI
  clear S8 D8 FI
  go_wp2_with fail
  refine (vars_bad S9.sto (a := 4) (by omega) (by omega) hI).mono ?_
  rintro e w8 ⟨rfl, rfl⟩
  obtain ⟨gd, cap, rfl, cd0⟩ := D9.row.get (i := 0) (x := 0) rfl
  obtain ⟨gd', cap', e, cd1⟩ := D9.row.get (i := 1) (x := 1) rfl
  injection e with e1 e3 e4
  obtain rfl : gd = gd' := by simpa using e1
  have HF := Lib.hid S9.fr
  have hnum : ((numOf (fun i y => y ([0, 1].getD i 0)) (xbit 6) 2 : Nat) : Int) = 2 := by rfl
  clear S9 D9 hI HD6 e1 e3 e4 hl hh3
  go_wp2
  go_ret
  exact ⟨rfl, HF.out⟩
end Go.Proofs.YtiojnjihbidbiaaGreat
/- The word laws' own words: variables, two by two. -/
namespace Go.Proofs.YtiojnjihbidbiaaGreat
open Go.RowKit
attribute [local go_sem ↓] Go.wp_at_zero Go.wp_at_succ
set_option linter.unusedVariables false

theorem results_tmp4 {fn : Func} {t u v x : Tmp} (h : fn.results = #[.tmp t, .tmp u, .tmp v, .tmp x]) (tmps : Array Value) (P : Program) (w : World) :
    (results fn tmps).run P w = .ok (.tuple #[tmps.getD t undef, tmps.getD u undef, tmps.getD v undef, tmps.getD x undef]) w := by
  simp [results, h]

section
variable {w w1 w2 : World} {s n room c : Nat} {off : Bool} {B B' : List Nat} {L L' : List Bdd.Nd} {v : Value} {hs : List Nat}

set_option maxHeartbeats 1000000 in
/-- Two words with the same handles are the same. -/
theorem same_any {v1 v2 : Value} (h1 : HsAt w v1 hs) (h2 : HsAt w v2 hs) (hl : hs.length < 1000) :
    Calls Tryz.prog 29 #[v1, v2] w fun e w' => e = .returned (.bool true) ∧ Fr [] w w' := by
  obtain ⟨aa, acap, rfl, _⟩ := h1.shape
  obtain ⟨ba, bcap, rfl, _⟩ := h2.shape
  have H1 := Lib.hid h1
  have H2 := Lib.hid h2
  clear h1 h2
  go_enter Tryz.func29, Tryz.ntmps29
  go_wp2_with fail
  go_loopg [5] hs.length (fun kk i wr => ∃ j : Nat, j ≤ hs.length ∧ kk = hs.length - j ∧ i = .int .i64 (j : Int) ∧ Fr [] w wr)
  case atStart => exact ⟨0, by omega, by omega, rfl, Fr.refl _ _⟩
  case round =>
    obtain ⟨j, hj, hk, rfl, hF⟩ := hrel
    by_cases hlt : j < hs.length
    · obtain ⟨x, hx⟩ : ∃ x, hs[j]? = some x := ⟨hs[j], List.getElem?_eq_getElem hlt⟩
      obtain ⟨ga, acap', e, ca⟩ := (H1.out.fr hF (by simp)).get hx
      injection e with e1 e3 e4
      subst e1 e4
      obtain ⟨gb, bcap', e, cb⟩ := (H2.out.fr hF (by simp)).get hx
      injection e with e1 e5 e4
      subst e1 e4
      have HF := Lib.hid hF
      clear hF hx e3 e5
      go_wp2_with fail
      go_quiet (fail)
      have HF2 := Lib.hid (HF.out.drewN nq)
      generalize wr.drewN nq = wA at HF2 ⊢
      go_wp2
      go_roundg (hs.length - (j + 1))
      case measure => omega
      case rel => exact ⟨j + 1, by omega, rfl, by go_num, HF2.out⟩
    · have e : j = hs.length := by omega
      subst e
      have HF := Lib.hid hF
      clear hF
      go_wp2
      go_ret
      exact ⟨rfl, HF.out⟩

def evens (k : Nat) : List Nat := (List.range k).map fun i => 2 * i
def odds (k : Nat) : List Nat := (List.range k).map fun i => 2 * i + 1
theorem evens_len (k : Nat) : (evens k).length = k := by simp [evens]
theorem odds_len (k : Nat) : (odds k).length = k := by simp [odds]
theorem evens_succ (k : Nat) : evens (k + 1) = evens k ++ [2 * k] := by simp [evens, List.range_succ]
theorem odds_succ (k : Nat) : odds (k + 1) = odds k ++ [2 * k + 1] := by simp [odds, List.range_succ]
theorem evens_get {k i x : Nat} (h : (evens k)[i]? = some x) : i < k ∧ x = 2 * i := by
  unfold evens at h
  rw [List.getElem?_map] at h
  rcases Nat.lt_or_ge i k with hi | hi
  · rw [List.getElem?_range hi] at h; exact ⟨hi, (Option.some.inj h).symm⟩
  · rw [List.getElem?_eq_none (by simp; omega)] at h; cases h
theorem odds_get {k i x : Nat} (h : (odds k)[i]? = some x) : i < k ∧ x = 2 * i + 1 := by
  unfold odds at h
  rw [List.getElem?_map] at h
  rcases Nat.lt_or_ge i k with hi | hi
  · rw [List.getElem?_range hi] at h; exact ⟨hi, (Option.some.inj h).symm⟩
  · rw [List.getElem?_eq_none (by simp; omega)] at h; cases h
theorem evens_getD {k i : Nat} (hi : i < k) : (evens k).getD i 0 = 2 * i := by
  rw [List.getD_eq_getElem?_getD]; unfold evens; rw [List.getElem?_map, List.getElem?_range hi]; rfl
theorem odds_getD {k i : Nat} (hi : i < k) : (odds k).getD i 0 = 2 * i + 1 := by
  rw [List.getD_eq_getElem?_getD]; unfold odds; rw [List.getElem?_map, List.getElem?_range hi]; rfl

/-- Two slices of ints that grow side by side. -/
structure TwoRel (w : World) (lv mv : Value) (l m : List Nat) (wr : World) : Prop where
  l : IntsAt wr lv l
  m : IntsAt wr mv m
  fr : Fr [] w wr
  lown : ∀ k, lv.ownBlock = some k → w.heap.size ≤ k
  mown : ∀ k, mv.ownBlock = some k → w.heap.size ≤ k
  apart : ∀ k, lv.ownBlock = some k → mv.ownBlock ≠ some k

theorem ints_nil (w : World) : IntsAt w (.slice none 0 0) [] := ⟨rfl, .inl ⟨rfl, rfl⟩⟩

theorem TwoRel.start (w : World) : TwoRel w (.slice none 0 0) (.slice none 0 0) [] [] w := ⟨ints_nil w, ints_nil w, Fr.refl _ _, fun k hk => by (cases hk), fun k hk => by (cases hk), fun k hk => by (cases hk)⟩

theorem TwoRel.swap {lv mv : Value} {l m : List Nat} {wr : World} (h : TwoRel w lv mv l m wr) : TwoRel w mv lv m l wr := ⟨h.m, h.l, h.fr, h.mown, h.lown, fun k hk e => h.apart k e hk⟩

theorem TwoRel.push {lv mv : Value} {l m l' : List Nat} {wr w1 : World} {g cap b z : Nat} {o : Obj} (h : TwoRel w lv mv l m wr) (e : l' = l ++ [b]) (hz : l.length = z)
    (hown : w1.ownsRow 0 3 1 (.slice (some ⟨g, 0, none⟩) (z + 1) cap) (z + 1) (l.map (fun (h : Nat) => Value.int .i64 (h : Int)) ++ [.int .i64 (b : Int)])) (hg : (wr.alloc o).grownBy w1 lv.ownBlock) (hat : lv.ownBlock = some g ∨ g = wr.heap.size + 1) :
    TwoRel w (.slice (some ⟨g, 0, none⟩) (z + 1) cap) mv l' m w1 := by
  subst e
  subst hz
  have s1 := h.fr.size
  have F : Fr lv.ownBlock.toList wr w1 := ((Fr.refl _ wr).alloc o).grown hg (fun k hk => .inl (by simp [hk]))
  refine ⟨?_, row_fr h.m F (fun k hk hm => ?_), h.fr.trans F (fun x hx => ?_), fun k hk => ?_, h.mown, fun k hk hm => ?_⟩
  · unfold IntsAt; rw [List.length_append, List.map_append]; exact hown
  · simp only [Option.mem_toList] at hm
    exact h.apart k hm hk
  · simp only [Option.mem_toList] at hx
    exact .inr (h.lown x hx)
  · simp only [Value.ownBlock, Option.some.injEq] at hk
    subst hk
    rcases hat with h1 | h1
    · exact h.lown _ h1
    · omega
  · simp only [Value.ownBlock, Option.some.injEq] at hk
    subst hk
    rcases hat with h1 | h1
    · exact h.apart _ h1 hm
    · have := row_lt h.m hm; omega

set_option maxHeartbeats 2000000 in
set_option maxRecDepth 4000 in
theorem words_any (k : Nat) (w : World) (k1 : 1 ≤ k) (k4 : k ≤ 4) :
    Calls Tryz.prog 25 #[.int .i64 (k : Int)] w fun e w' => ∃ (s : Nat) (va vb : Value) (ha hb : List Nat) (B : List Nat) (L : List Bdd.Nd), e = .returned (.tuple #[.pointer (some ⟨s, 0, none⟩), va, vb, .bool true]) ∧
      Ses w w' s B 8 30000 false L ∧ WAt w' B va ha ∧ WAt w' B vb hb ∧ ha.length = k ∧ hb.length = k ∧ DenL 8 L ha (fun i y => y (2 * i)) ∧ DenL 8 L hb (fun i y => y (2 * i + 1)) ∧ Bdd.high L ≤ 248 := by
  obtain ⟨i0, hi, hz0, hz1, hz2⟩ := info_parts Tryz.info_int
  go_enter Tryz.func25, Tryz.ntmps25
  go_wp2_with fail
  refine (snew_any 8 30000 _ (by omega) (by omega) (by omega) (by omega)).mono ?_
  rintro e w1 ⟨s, B, rfl, hs, hF, hB⟩
  have S1 : Ses w w1 s B 8 30000 false [] := ⟨hs, hF, hB⟩
  clear hs hF hB
  go_wp2_with fail
  go_loopg [8, 9, 10] k (fun kk lv mv i wr => ∃ j : Nat, j ≤ k ∧ kk = k - j ∧ i = .int .i64 (j : Int) ∧ TwoRel w1 lv mv (evens j) (odds j) wr)
  case atStart => exact ⟨0, by omega, by omega, rfl, TwoRel.start w1⟩
  case round =>
    obtain ⟨j, hj, hk, rfl, hT⟩ := hrel
    by_cases hlt : j < k
    · have hw1 : IntKind.i64.wrap (2 * (j : Int)) = 2 * (j : Int) := IntWalk.i64_in _ (by omega)
      have hw2 : IntKind.i64.wrap (2 * (j : Int) + 1) = 2 * (j : Int) + 1 := IntWalk.i64_in _ (by omega)
      have hel := evens_len j
      have hol := odds_len j
      have hes := Lib.hid (evens_succ j)
      have hos := Lib.hid (odds_succ j)
      have HT := Lib.hid hT
      clear hT
      generalize evens j = ev at *
      generalize odds j = od at *
      go_wp2_with (at_builtin; go_loud (refine wpList_append_lies _ rfl _ _ _ rfl 0 3 i0 (.int .i64 0) 1 8 Tryz.underlying120 hi hz0 hz1 hz2 rfl (by omega) u8 ev.length _ rfl (HT.out.l.alloc _) ⟨wr.heap.size, 0, none⟩ 1 1 [.int .i64 ((2 * j : Nat) : Int)] rfl rfl ?hnews ?h1 (by omega) ?h63 (by omega) (Nat.zero_le _) (wr.heap.size + 1) (by simp) ?_))
      case hnews =>
        intro i u hi
        have : i = 0 := by simpa using (List.getElem?_eq_some_iff.1 hi).1
        subst this
        simp only [List.getElem?_cons_zero, Option.some.injEq] at hi
        subst hi
        exact (Blk.new wr #[.int .i64 ((2 * j : Nat) : Int)] 3).cell 0 rfl
      case h1 =>
        intro u hu
        simp only [List.mem_singleton] at hu
        subst hu; rfl
      case h63 => unfold maxLen; omega
      · intro g cap w2 hown2 hgrow2 hat2 hglt2
        have T2 := Lib.hid (HT.out.push hes.out hel hown2 hgrow2 hat2)
        clear hown2 hgrow2 hat2 hglt2
        go_wp2_with (at_builtin; go_loud (refine wpList_append_lies _ rfl _ _ _ rfl 0 3 i0 (.int .i64 0) 1 8 Tryz.underlying120 hi hz0 hz1 hz2 rfl (by omega) u9 od.length _ rfl (T2.out.m.alloc _) ⟨w2.heap.size, 0, none⟩ 1 1 [.int .i64 ((2 * j + 1 : Nat) : Int)] rfl rfl ?hnews ?h1 (by omega) ?h63 (by omega) (Nat.zero_le _) (w2.heap.size + 1) (by simp) ?_))
        case hnews =>
          intro i u hi
          have : i = 0 := by simpa using (List.getElem?_eq_some_iff.1 hi).1
          subst this
          simp only [List.getElem?_cons_zero, Option.some.injEq] at hi
          subst hi
          exact (Blk.new w2 #[.int .i64 ((2 * j + 1 : Nat) : Int)] 3).cell 0 rfl
        case h1 =>
          intro u hu
          simp only [List.mem_singleton] at hu
          subst hu; rfl
        case h63 => unfold maxLen; omega
        · intro g2 cap2 w3 hown3 hgrow3 hat3 hglt3
          have T3 := Lib.hid ((T2.out.swap.push hos.out hol hown3 hgrow3 hat3).swap)
          clear hown3 hgrow3 hat3 hglt3
          go_wp2
          go_roundg (k - (j + 1))
          case measure => omega
          case rel => exact ⟨j + 1, by omega, rfl, by go_num, T3.out⟩
    · have e : j = k := by omega
      subst e
      have S2 := S1.then hT.fr
      have hBlt := S1.sto.mem.2
      have hIl := hT.l
      have hIm := hT.m
      have hol : ∀ k, u8.ownBlock = some k → k ∉ B := fun k hk hb => by have := hT.lown k hk; have := hBlt k hb; omega
      have hom : ∀ k, u9.ownBlock = some k → k ∉ B := fun k hk hb => by have := hT.mown k hk; have := hBlt k hb; omega
      clear hT S1
      go_wp2_with fail
      refine (vars_any' S2.sto hIl hol (by rw [evens_len]; omega) (by rw [evens_len]; omega) (fun i x hx => by have := evens_get hx; omega) (by rw [evens_len]; refine .inl ?_; show Bdd.high [] + 31 * j + 256 < 30000; have : Bdd.high [] = 0 := rfl; omega)).mono ?_
      rintro e w2 ⟨va, ha, B2, L2, rfl, hW, hl, hD⟩
      rw [evens_len] at hl
      have S3 := S2.evo hW.evo
      have A3 := hW.at
      have hI3 := row_fr hIm hW.evo.fr hom
      have hom3 : ∀ k, u9.ownBlock = some k → k ∉ B2 := fun k hk hb => by
        rcases hW.evo.own k hb with h1 | h1
        · exact hom k hk h1
        · have := row_lt hIm hk; omega
      have hh3 : Bdd.high L2 ≤ 31 * j := by
        have := hW.evo.gr.hi
        rw [evens_len] at this
        have e0 : Bdd.high [] = 0 := rfl
        omega
      have HD := Lib.hid hD
      clear hW hD S2 hol hom hIl hIm
      go_wp2_with fail
      refine (vars_any' S3.sto hI3 hom3 (by rw [odds_len]; omega) (by rw [odds_len]; omega) (fun i x hx => by have := odds_get hx; omega) (by rw [odds_len]; omega)).mono ?_
      rintro e w3 ⟨vb, hb, B3, L3, rfl, hW, hl2, hD2⟩
      rw [odds_len] at hl2
      have S4 := S3.evo hW.evo
      have A4 := A3.evo hW.evo
      have B4 := hW.at
      have hh4 : Bdd.high L3 ≤ 248 := by
        have := hW.evo.gr.hi
        rw [odds_len] at this
        omega
      have D1 : DenL 8 L3 ha (fun i y => y (2 * i)) := fun i h hh => by
        have h1 := (HD.out.more S3.sto.wf hW.evo.gr) i h hh
        have hi := (List.getElem?_eq_some_iff.1 hh).1
        exact h1.fn fun y => by show y ((evens j).getD i 0) = y (2 * i); rw [evens_getD (by omega)]
      have D2 : DenL 8 L3 hb (fun i y => y (2 * i + 1)) := fun i h hh => by
        have h1 := hD2 i h hh
        have hi := (List.getElem?_eq_some_iff.1 hh).1
        exact h1.fn fun y => by show y ((odds j).getD i 0) = y (2 * i + 1); rw [odds_getD (by omega)]
      have hfin : ∃ (s' : Nat) (va' vb' : Value) (ha hb : List Nat) (B : List Nat) (L : List Bdd.Nd), Ending.returned (.tuple #[.pointer (some ⟨s, 0, none⟩), va, vb, .bool true]) = .returned (.tuple #[.pointer (some ⟨s', 0, none⟩), va', vb', .bool true]) ∧
          Ses w w3 s' B 8 30000 false L ∧ WAt w3 B va' ha ∧ WAt w3 B vb' hb ∧ ha.length = j ∧ hb.length = j ∧ DenL 8 L ha (fun i y => y (2 * i)) ∧ DenL 8 L hb (fun i y => y (2 * i + 1)) ∧ Bdd.high L ≤ 248 :=
        ⟨s, va, vb, ha, hb, B3, L3, rfl, S4, A4, B4, hl, hl2, D1, D2, hh4⟩
      have HF := Lib.hid hfin
      clear hfin S4 A4 B4 D1 D2 hW hD2 HD S3 A3 hI3
      go_wp2
      refine bodyPost_ret (results_tmp4 rfl _ _ _) rfl ?_
      exact HF.out
end
end Go.Proofs.YtiojnjihbidbiaaGreat
/- word, walked: where words are the same; a choice. -/
namespace Go.Proofs.YtiojnjihbidbiaaGreat
open Go.RowKit
attribute [local go_sem ↓] Go.wp_at_zero Go.wp_at_succ
set_option linter.unusedVariables false

/-- The first j bits are the same. -/
def eqF (F G : Nat → Fn) : Nat → Fn
  | 0 => fun _ => true
  | j + 1 => fun y => (eqF F G j y && !(F j y ^^ G j y))

section
variable {w w' : World} {s n room : Nat} {off : Bool} {B : List Nat} {L : List Bdd.Nd}

/-- Before bit j. -/
def EqRel (s n room : Nat) (off : Bool) (B : List Nat) (L : List Bdd.Nd) (w : World) (F G : Nat → Fn) (j : Nat) (cv : Value) (wr : World) : Prop :=
  ∃ (k : Nat) (B' : List Nat) (L' : List Bdd.Nd), cv = .int .u32 (k : Int) ∧ Evo s n room off B L w B' L' wr (93 * j) ∧ Den n L' k (eqF F G j)

theorem not_in {g : Nat} {B' : List Nat} {L' : List Bdd.Nd} {c : Nat} (e : Evo s n room off B L w B' L' w' c) (h1 : g ∉ B) (h2 : g < w.heap.size) : g ∉ B' := fun hb => by
  rcases e.own g hb with h | h
  · exact h1 h
  · omega

set_option maxHeartbeats 4000000 in
set_option maxRecDepth 4000 in
theorem same_word {m : Nat} {av bv : Value} {xs zs : List Nat} {F G : Nat → Fn} (h : Sto w s B n room off L) (hA : HsAt w av xs) (hX : HsAt w bv zs) (oA : ∀ k, av.ownBlock = some k → k ∉ B) (oX : ∀ k, bv.ownBlock = some k → k ∉ B)
    (la : xs.length = m) (lb : zs.length = m) (m1 : 1 ≤ m) (m8 : m ≤ 8) (dA : DenL n L xs F) (dX : DenL n L zs G) (hr : Bdd.high L + 93 * m + 256 < room ∨ n ≤ 3 ∧ 256 < room) :
    Calls Tryz.prog 34 #[.pointer (some ⟨s, 0, none⟩), av, bv] w fun e w' => ∃ (k : Nat) (B' : List Nat) (L' : List Bdd.Nd), e = .returned (.tuple #[.int .u32 (k : Int), .int .i64 0]) ∧ Evo s n room off B L w B' L' w' (93 * m) ∧ Den n L' k (eqF F G m) := by
  obtain ⟨aa, acap, rfl⟩ : ∃ aa acap, av = .slice aa m acap := by obtain ⟨aa, acap, e, _⟩ := hA.shape; exact ⟨aa, acap, by rw [e, la]⟩
  obtain ⟨ba, bcap, rfl⟩ : ∃ aa acap, bv = .slice aa m acap := by obtain ⟨aa, acap, e, _⟩ := hX.shape; exact ⟨aa, acap, by rw [e, lb]⟩
  have R := Lib.hid (refuses_two h hA hX la lb m1 m8 dA dX)
  have F2 : Fr [] w ((w.alloc (.cells #[.slice aa m acap, .slice ba m bcap] 24)).alloc (.cells #[.pointer (some ⟨s, 0, none⟩), .int .i64 0] 145)) := ((Fr.refl [] w).alloc _).alloc _
  have hsz : (w.alloc (.cells #[.slice aa m acap, .slice ba m bcap] 24)).heap.size = w.heap.size + 1 := World.size_alloc _ _
  have hG : GAt ((w.alloc (.cells #[.slice aa m acap, .slice ba m bcap] 24)).alloc (.cells #[.pointer (some ⟨s, 0, none⟩), .int .i64 0] 145)) (w.heap.size + 1) s B n room off L :=
    ⟨by rw [← hsz]; exact Blk.new _ _ _, h.fr F2 (by simp), fun hb => by have := h.mem.2 _ hb; omega⟩
  have HG := Lib.hid hG
  have HE := Lib.hid (hG.sto.evo F2 (by simp))
  have HA := Lib.hid (hA.fr F2 (by simp))
  have HX := Lib.hid (hX.fr F2 (by simp))
  have HDA := Lib.hid dA
  have HDX := Lib.hid dX
  have HR := Lib.hid hr
  have HOA := Lib.hid oA
  have HOX := Lib.hid oX
  clear hG F2 hA hX dA dX hr oA oX h
  go_enter Tryz.func34, Tryz.ntmps34
  go_wp2_with fail
  refine R.out.mono ?_
  rintro e w1 ⟨rfl, rfl⟩
  go_wp2_with fail
  generalize (w.alloc (.cells #[.slice aa m acap, .slice ba m bcap] 24)).alloc (.cells #[.pointer (some ⟨s, 0, none⟩), .int .i64 0] 145) = wg at *
  go_loopg [10, 25] m (fun kk cv i wr => ∃ j : Nat, j ≤ m ∧ kk = m - j ∧ i = .int .i64 (j : Int) ∧ EqRel s n room off B L wg F G j cv wr)
  case atStart => exact ⟨0, by omega, by omega, rfl, 1, B, L, rfl, Evo.refl HG.out.sto, Den.one⟩
  case round =>
    obtain ⟨j, hj, hk, rfl, k, B', L', rfl, hev, hC⟩ := hrel
    have hGr := HG.out.evo hev
    by_cases hlt : j < m
    · obtain ⟨x, hx⟩ : ∃ x, xs[j]? = some x := ⟨xs[j], List.getElem?_eq_getElem (by omega)⟩
      obtain ⟨z, hz⟩ : ∃ z, zs[j]? = some z := ⟨zs[j], List.getElem?_eq_getElem (by omega)⟩
      have F0 : Fr [] wr wr.drew := (Fr.refl [] wr).drew
      have hGd := hGr.fr F0 (by simp) (by simp)
      have eD : Evo s n room off B' L' wr B' L' wr.drew 0 := hGd.sto.evo F0 (by simp)
      obtain ⟨ga, acap', e, ca⟩ := (HA.out.fr hev.fr HOA.out).get hx
      injection e with e1 e3 e4
      subst e1 e4
      obtain ⟨gb, bcap', e2, cb⟩ := (HX.out.fr hev.fr HOX.out).get hz
      injection e2 with e1 e5 e4
      subst e1 e4
      have hga : ga ∉ B' := not_in hev (HOA.out ga rfl) (HA.out.lt (k := ga) rfl)
      have hgb : gb ∉ B' := not_in hev (HOX.out gb rfl) (HX.out.lt (k := gb) rfl)
      have lga : ga < wr.drew.heap.size := Nat.lt_of_lt_of_le (HA.out.lt (k := ga) rfl) hev.fr.size
      have lgb : gb < wr.drew.heap.size := Nat.lt_of_lt_of_le (HX.out.lt (k := gb) rfl) hev.fr.size
      have d1 := (HDA.out j x hx).more HG.out.sto.wf hev.gr
      have d2 := (HDX.out j z hz).more HG.out.sto.wf hev.gr
      have hhi := hev.gr.hi
      have hroom : Bdd.high L' + 93 + 256 < room ∨ n ≤ 3 ∧ 256 < room := by have := HR.out; omega
      have HEV := Lib.hid (hev.trans eD)
      have HC := Lib.hid hC
      have HGD := Lib.hid hGd
      have HD1 := Lib.hid d1
      have HD2 := Lib.hid d2
      clear e3 e5 hx hz hC hGd hGr eD d1 d2 hhi F0 hev
      go_wp2_with fail
      go_region_held3 (fun w' => w'.cell? ⟨ga, j, none⟩ = some (.int .u32 (x : Int)) ∧ w'.cell? ⟨gb, j, none⟩ = some (.int .u32 (z : Int))) (go_keep)
        (first
         | (go_at_call 102; refine (gxor_any (by exact HGD.out) HD1.out HD2.out (by omega)).mono ?_; rintro e w1 ⟨x1, B1, L1, rfl, e1, q1⟩; have g1 := HGD.out.evo e1; have r1 := e1.gr.hi; have k0 := e1.fr.cell (by exact ca) hga; have k1 := e1.fr.cell (by exact cb) hgb)
         | (go_at_call 101; refine (gnot_any g1 q1 (by omega)).mono ?_; rintro e w2 ⟨x2, B2, L2, rfl, e2, q2⟩; have g2 := g1.evo e2; have r2 := e2.gr.hi; have k2 := e2.fr.cell k0 (not_in e1 hga lga); have k3 := e2.fr.cell k1 (not_in e1 hgb lgb))
         | (go_at_call 99; refine (gand_any g2 (HC.out.more HGD.out.sto.wf (e1.trans e2).gr) q2 (by omega)).mono ?_; rintro e w3 ⟨x3, B3, L3, rfl, e3, q3⟩; have k4 := e3.fr.cell k2 (not_in (e1.trans e2) hga lga); have k5 := e3.fr.cell k3 (not_in (e1.trans e2) hgb lgb)))
      have hrel : EqRel s n room off B L wg F G (j + 1) (.int .u32 (x3 : Int)) w3 :=
        ⟨x3, B3, L3, rfl, (((HEV.out.trans e1).trans e2).trans e3).mono (by omega), q3⟩
      have HREL := Lib.hid hrel
      clear hrel e1 e2 e3 q1 q2 q3 g1 g2
      go_wp2
      go_roundg (m - (j + 1))
      case measure => omega
      case rel => exact ⟨j + 1, by omega, rfl, by go_num, HREL.out⟩
    · have e : j = m := by omega
      subst e
      have c1 := hGr.blk.cell 1 (v := .int .i64 0) rfl
      have hfin := (HE.out.trans hev).mono (Nat.le_of_eq (Nat.zero_add _))
      have HF := Lib.hid hfin
      have HC := Lib.hid hC
      clear hfin hC hev hGr
      go_wp2
      go_ret2
      exact ⟨k, B', L', rfl, HF.out, HC.out⟩
end
end Go.Proofs.YtiojnjihbidbiaaGreat
/- word, walked: a choice between words. -/
namespace Go.Proofs.YtiojnjihbidbiaaGreat
open Go.RowKit
attribute [local go_sem ↓] Go.wp_at_zero Go.wp_at_succ
set_option linter.unusedVariables false

/-- Bit j of a choice. -/
def iteF (C : Fn) (F G : Nat → Fn) (j : Nat) : Fn := fun y => if C y then F j y else G j y

section
variable {w w' : World} {s n room : Nat} {off : Bool} {B : List Nat} {L : List Bdd.Nd}

def IteRel (s n room : Nat) (off : Bool) (B : List Nat) (L : List Bdd.Nd) (w : World) (C : Fn) (F G : Nat → Fn) (j : Nat) (v : Value) (wr : World) : Prop :=
  ∃ (hs : List Nat) (B' : List Nat) (L' : List Bdd.Nd), hs.length = j ∧ WOut s n room off B L w B' L' wr (31 * j) v hs ∧ DenL n L' hs (iteF C F G)

set_option maxHeartbeats 4000000 in
set_option maxRecDepth 4000 in
theorem ite_word {m c : Nat} {av bv : Value} {xs zs : List Nat} {C : Fn} {F G : Nat → Fn} (h : Sto w s B n room off L) (dC : Den n L c C) (hA : HsAt w av xs) (hX : HsAt w bv zs) (oA : ∀ k, av.ownBlock = some k → k ∉ B) (oX : ∀ k, bv.ownBlock = some k → k ∉ B)
    (la : xs.length = m) (lb : zs.length = m) (m1 : 1 ≤ m) (m8 : m ≤ 8) (dA : DenL n L xs F) (dX : DenL n L zs G) (hr : Bdd.high L + 31 * m + 256 < room ∨ n ≤ 3 ∧ 256 < room) :
    Calls Tryz.prog 35 #[.pointer (some ⟨s, 0, none⟩), .int .u32 (c : Int), av, bv] w fun e w' => ∃ (v : Value) (hs : List Nat) (B' : List Nat) (L' : List Bdd.Nd), e = .returned (.tuple #[v, .int .i64 0]) ∧ WOut s n room off B L w B' L' w' (31 * m) v hs ∧ hs.length = m ∧ DenL n L' hs (iteF C F G) := by
  obtain ⟨i0, hi, hz0, hz1, hz2⟩ := info_parts Tryz.info_handle
  obtain ⟨aa, acap, rfl⟩ : ∃ aa acap, av = .slice aa m acap := by obtain ⟨aa, acap, e, _⟩ := hA.shape; exact ⟨aa, acap, by rw [e, la]⟩
  obtain ⟨ba, bcap, rfl⟩ : ∃ aa acap, bv = .slice aa m acap := by obtain ⟨aa, acap, e, _⟩ := hX.shape; exact ⟨aa, acap, by rw [e, lb]⟩
  have R := Lib.hid (refuses_two h hA hX la lb m1 m8 dA dX)
  have F1 : Fr [] w (w.alloc (.cells #[.slice aa m acap, .slice ba m bcap] 24)) := (Fr.refl [] w).alloc _
  have HS := Lib.hid (h.fr F1 (by simp))
  have HE := Lib.hid ((h.fr F1 (by simp)).evo F1 (by simp))
  have HA := Lib.hid (hA.fr F1 (by simp))
  have HX := Lib.hid (hX.fr F1 (by simp))
  have HDA := Lib.hid dA
  have HDX := Lib.hid dX
  have HDC := Lib.hid dC
  have HR := Lib.hid hr
  have HOA := Lib.hid oA
  have HOX := Lib.hid oX
  clear F1 hA hX dA dX dC hr oA oX h
  go_enter Tryz.func35, Tryz.ntmps35
  go_wp2_with fail
  refine R.out.mono ?_
  rintro e w1 ⟨rfl, rfl⟩
  go_wp2_with fail
  refine (sto_isNd HS.out HDC.out.1).mono ?_
  rintro e w1 ⟨rfl, rfl⟩
  go_wp2_with fail
  generalize w.alloc (.cells #[.slice aa m acap, .slice ba m bcap] 24) = wg at *
  go_loopg [11, 29] m (fun kk v i wr => ∃ j : Nat, j ≤ m ∧ kk = m - j ∧ i = .int .i64 (j : Int) ∧ IteRel s n room off B L wg C F G j v wr)
  case atStart => exact ⟨0, by omega, by omega, rfl, [], B, L, rfl, WOut.start HS.out, DenL.nil _ _ _⟩
  case round =>
    obtain ⟨j, hj, hk, rfl, hs, B', L', hl, hW, hD⟩ := hrel
    by_cases hlt : j < m
    · obtain ⟨x, hx⟩ : ∃ x, xs[j]? = some x := ⟨xs[j], List.getElem?_eq_getElem (by omega)⟩
      obtain ⟨z, hz⟩ : ∃ z, zs[j]? = some z := ⟨zs[j], List.getElem?_eq_getElem (by omega)⟩
      have F0 : Fr [] wr wr.drew := (Fr.refl [] wr).drew
      have hSd := hW.evo.sto.fr F0 (by simp)
      have eD : Evo s n room off B' L' wr B' L' wr.drew 0 := hSd.evo F0 (by simp)
      obtain ⟨ga, acap', e, ca⟩ := (HA.out.fr hW.evo.fr HOA.out).get hx
      injection e with e1 e3 e4
      subst e1 e4
      obtain ⟨gb, bcap', e2, cb⟩ := (HX.out.fr hW.evo.fr HOX.out).get hz
      injection e2 with e1 e5 e4
      subst e1 e4
      have hga : ga ∉ B' := not_in hW.evo (HOA.out ga rfl) (HA.out.lt (k := ga) rfl)
      have hgb : gb ∉ B' := not_in hW.evo (HOX.out gb rfl) (HX.out.lt (k := gb) rfl)
      have d1 := (HDA.out j x hx).more HS.out.wf hW.evo.gr
      have d2 := (HDX.out j z hz).more HS.out.wf hW.evo.gr
      have d0 := HDC.out.more HS.out.wf hW.evo.gr
      have hhi := hW.evo.gr.hi
      have hroom : Bdd.high L' + 31 + 256 < room ∨ n ≤ 3 ∧ 256 < room := by have := HR.out; omega
      have HW := Lib.hid hW
      have HD := Lib.hid hD
      have HSD := Lib.hid hSd
      have HED := Lib.hid eD
      have HD0 := Lib.hid d0
      have HD1 := Lib.hid d1
      have HD2 := Lib.hid d2
      clear e3 e5 hx hz hW hD hSd eD d0 d1 d2 hhi F0
      go_wp2_with fail
      go_region_held3 (fun w' => w'.cell? ⟨ga, j, none⟩ = some (.int .u32 (x : Int)) ∧ w'.cell? ⟨gb, j, none⟩ = some (.int .u32 (z : Int))) (go_keep)
        ((go_at_call 103; refine (ite_any (by exact HSD.out) HD0.out HD1.out HD2.out).mono ?_; intro e w1 hp; obtain ⟨B1, L1, h1, hev, rfl, q1⟩ := OpPost.ok hp hroom; have k0 := hev.fr.cell (by exact ca) hga; have k1' := hev.fr.cell (by exact cb) hgb))
      have hev2 := HED.out.trans hev
      have hW1 := HW.out.step hev2
      have hD1 := (HD.out.more HW.out.evo.gr.wf hev.gr).push hl (F := iteF C F G) q1
      have HW1 := Lib.hid hW1
      have HD1' := Lib.hid hD1
      clear hev2 hW1 hD1 hev q1 hp
      go_wp2_with (at_builtin; refine wpList_append_lies _ rfl _ _ _ rfl 0 28 i0 (.int .u32 0) 1 4 Tryz.underlying24 hi hz0 hz1 hz2 rfl (by omega) u11 hs.length _ rfl (HW1.out.row.alloc _) ⟨w1.heap.size, 0, none⟩ 1 1 [.int .u32 (h1 : Int)] rfl rfl ?hnews ?h1 (by omega) ?h63 (by omega) (Nat.zero_le _) (w1.heap.size + 1) (by simp) ?_)
      case hnews =>
        intro i u hi
        have : i = 0 := by simpa using (List.getElem?_eq_some_iff.1 hi).1
        subst this
        simp only [List.getElem?_cons_zero, Option.some.injEq] at hi
        subst hi
        exact (Blk.new w1 #[.int .u32 (h1 : Int)] 28).cell 0 rfl
      case h1 =>
        intro u hu
        simp only [List.mem_singleton] at hu
        subst hu; rfl
      case h63 => unfold maxLen; omega
      · intro g' cap' w3 hown3 hgrow hat hglt
        have hW3 := HW1.out.push hl hown3 hgrow hat
        have hrel : IteRel s n room off B L wg C F G (j + 1) (.slice (some ⟨g', 0, none⟩) (j + 1) cap') w3 :=
          ⟨_, B1, L1, by simp [hl], ⟨hW3.evo.mono (by omega), hW3.row, hW3.own⟩, HD1'.out⟩
        have HREL := Lib.hid hrel
        clear hW3 hrel hown3 hgrow hat
        go_wp2
        go_roundg (m - (j + 1))
        case measure => omega
        case rel => exact ⟨j + 1, by omega, rfl, by go_num, HREL.out⟩
    · have e : j = m := by omega
      subst e
      have HW := Lib.hid (WOut.from HE.out hW (Nat.le_of_eq (Nat.zero_add _)))
      have HD := Lib.hid hD
      clear hW hD
      go_wp2
      go_ret2
      exact ⟨_, hs, B', L', rfl, HW.out, hl, HD.out⟩
end
end Go.Proofs.YtiojnjihbidbiaaGreat

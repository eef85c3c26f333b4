/- The word laws' own words: variables, two by two. -/
import Derived.Test.YtiojnjihbidbiaaGreatWord9
namespace Go.Proofs.YtiojnjihbidbiaaGreat
open Go.RowKit
attribute [local go_sem ↓] Go.wp_at_zero Go.wp_at_succ
set_option linter.unusedVariables false

theorem results_tmp4 {fn : Func} {t u v x : Tmp} (h : fn.results = #[.tmp t, .tmp u, .tmp v, .tmp x]) (tmps : Array Value) (P : Program) (w : World) :
    (results fn tmps).run P w = .ok (.tuple #[tmps.getD t undef, tmps.getD u undef, tmps.getD v undef, tmps.getD x undef]) w := by
  simp [results, h]

section
variable {w w1 w2 : World} {s n room c : Nat} {off : Bool} {B B' : List Nat} {L L' : List Bdd.Nd} {v : Value} {hs : List Nat}

set_option maxHeartbeats 1000000 in
/-- Two words with the same handles are the same. -/
theorem same_any {v1 v2 : Value} (h1 : HsAt w v1 hs) (h2 : HsAt w v2 hs) (hl : hs.length < 1000) :
    Calls Tryz.prog 29 #[v1, v2] w fun e w' => e = .returned (.bool true) ∧ Fr [] w w' := by
  obtain ⟨aa, acap, rfl, _⟩ := h1.shape
  obtain ⟨ba, bcap, rfl, _⟩ := h2.shape
  have H1 := Lib.hid h1
  have H2 := Lib.hid h2
  clear h1 h2
  go_enter Tryz.func29, Tryz.ntmps29
  go_wp2_with fail
  go_loopg [5] hs.length (fun kk i wr => ∃ j : Nat, j ≤ hs.length ∧ kk = hs.length - j ∧ i = .int .i64 (j : Int) ∧ Fr [] w wr)
  case atStart => exact ⟨0, by omega, by omega, rfl, Fr.refl _ _⟩
  case round =>
    obtain ⟨j, hj, hk, rfl, hF⟩ := hrel
    by_cases hlt : j < hs.length
    · obtain ⟨x, hx⟩ : ∃ x, hs[j]? = some x := ⟨hs[j], List.getElem?_eq_getElem hlt⟩
      obtain ⟨ga, acap', e, ca⟩ := (H1.out.fr hF (by simp)).get hx
      injection e with e1 e3 e4
      subst e1 e4
      obtain ⟨gb, bcap', e, cb⟩ := (H2.out.fr hF (by simp)).get hx
      injection e with e1 e5 e4
      subst e1 e4
      have HF := Lib.hid hF
      clear hF hx e3 e5
      go_wp2_with fail
      go_quiet (fail)
      have HF2 := Lib.hid (HF.out.drewN nq)
      generalize wr.drewN nq = wA at HF2 ⊢
      go_wp2
      go_roundg (hs.length - (j + 1))
      case measure => omega
      case rel => exact ⟨j + 1, by omega, rfl, by go_num, HF2.out⟩
    · have e : j = hs.length := by omega
      subst e
      have HF := Lib.hid hF
      clear hF
      go_wp2
      go_ret
      exact ⟨rfl, HF.out⟩

def evens (k : Nat) : List Nat := (List.range k).map fun i => 2 * i
def odds (k : Nat) : List Nat := (List.range k).map fun i => 2 * i + 1
theorem evens_len (k : Nat) : (evens k).length = k := by simp [evens]
theorem odds_len (k : Nat) : (odds k).length = k := by simp [odds]
theorem evens_succ (k : Nat) : evens (k + 1) = evens k ++ [2 * k] := by simp [evens, List.range_succ]
theorem odds_succ (k : Nat) : odds (k + 1) = odds k ++ [2 * k + 1] := by simp [odds, List.range_succ]
theorem evens_get {k i x : Nat} (h : (evens k)[i]? = some x) : i < k ∧ x = 2 * i := by
  unfold evens at h
  rw [List.getElem?_map] at h
  rcases Nat.lt_or_ge i k with hi | hi
  · rw [List.getElem?_range hi] at h; exact ⟨hi, (Option.some.inj h).symm⟩
  · rw [List.getElem?_eq_none (by simp; omega)] at h; cases h
theorem odds_get {k i x : Nat} (h : (odds k)[i]? = some x) : i < k ∧ x = 2 * i + 1 := by
  unfold odds at h
  rw [List.getElem?_map] at h
  rcases Nat.lt_or_ge i k with hi | hi
  · rw [List.getElem?_range hi] at h; exact ⟨hi, (Option.some.inj h).symm⟩
  · rw [List.getElem?_eq_none (by simp; omega)] at h; cases h
theorem evens_getD {k i : Nat} (hi : i < k) : (evens k).getD i 0 = 2 * i := by
  rw [List.getD_eq_getElem?_getD]; unfold evens; rw [List.getElem?_map, List.getElem?_range hi]; rfl
theorem odds_getD {k i : Nat} (hi : i < k) : (odds k).getD i 0 = 2 * i + 1 := by
  rw [List.getD_eq_getElem?_getD]; unfold odds; rw [List.getElem?_map, List.getElem?_range hi]; rfl

/-- Two slices of ints that grow side by side. -/
structure TwoRel (w : World) (lv mv : Value) (l m : List Nat) (wr : World) : Prop where
  l : IntsAt wr lv l
  m : IntsAt wr mv m
  fr : Fr [] w wr
  lown : ∀ k, lv.ownBlock = some k → w.heap.size ≤ k
  mown : ∀ k, mv.ownBlock = some k → w.heap.size ≤ k
  apart : ∀ k, lv.ownBlock = some k → mv.ownBlock ≠ some k

theorem ints_nil (w : World) : IntsAt w (.slice none 0 0) [] := ⟨rfl, .inl ⟨rfl, rfl⟩⟩

theorem TwoRel.start (w : World) : TwoRel w (.slice none 0 0) (.slice none 0 0) [] [] w := ⟨ints_nil w, ints_nil w, Fr.refl _ _, fun k hk => by (cases hk), fun k hk => by (cases hk), fun k hk => by (cases hk)⟩

theorem TwoRel.swap {lv mv : Value} {l m : List Nat} {wr : World} (h : TwoRel w lv mv l m wr) : TwoRel w mv lv m l wr := ⟨h.m, h.l, h.fr, h.mown, h.lown, fun k hk e => h.apart k e hk⟩

theorem TwoRel.push {lv mv : Value} {l m l' : List Nat} {wr w1 : World} {g cap b z : Nat} {o : Obj} (h : TwoRel w lv mv l m wr) (e : l' = l ++ [b]) (hz : l.length = z)
    (hown : w1.ownsRow 0 3 1 (.slice (some ⟨g, 0, none⟩) (z + 1) cap) (z + 1) (l.map (fun (h : Nat) => Value.int .i64 (h : Int)) ++ [.int .i64 (b : Int)])) (hg : (wr.alloc o).grownBy w1 lv.ownBlock) (hat : lv.ownBlock = some g ∨ g = wr.heap.size + 1) :
    TwoRel w (.slice (some ⟨g, 0, none⟩) (z + 1) cap) mv l' m w1 := by
  subst e
  subst hz
  have s1 := h.fr.size
  have F : Fr lv.ownBlock.toList wr w1 := ((Fr.refl _ wr).alloc o).grown hg (fun k hk => .inl (by simp [hk]))
  refine ⟨?_, row_fr h.m F (fun k hk hm => ?_), h.fr.trans F (fun x hx => ?_), fun k hk => ?_, h.mown, fun k hk hm => ?_⟩
  · unfold IntsAt; rw [List.length_append, List.map_append]; exact hown
  · simp only [Option.mem_toList] at hm
    exact h.apart k hm hk
  · simp only [Option.mem_toList] at hx
    exact .inr (h.lown x hx)
  · simp only [Value.ownBlock, Option.some.injEq] at hk
    subst hk
    rcases hat with h1 | h1
    · exact h.lown _ h1
    · omega
  · simp only [Value.ownBlock, Option.some.injEq] at hk
    subst hk
    rcases hat with h1 | h1
    · exact h.apart _ h1 hm
    · have := row_lt h.m hm; omega

set_option maxHeartbeats 2000000 in
set_option maxRecDepth 4000 in
theorem words_any (k : Nat) (w : World) (k1 : 1 ≤ k) (k4 : k ≤ 4) :
    Calls Tryz.prog 25 #[.int .i64 (k : Int)] w fun e w' => ∃ (s : Nat) (va vb : Value) (ha hb : List Nat) (B : List Nat) (L : List Bdd.Nd), e = .returned (.tuple #[.pointer (some ⟨s, 0, none⟩), va, vb, .bool true]) ∧
      Ses w w' s B 8 30000 false L ∧ WAt w' B va ha ∧ WAt w' B vb hb ∧ ha.length = k ∧ hb.length = k ∧ DenL 8 L ha (fun i y => y (2 * i)) ∧ DenL 8 L hb (fun i y => y (2 * i + 1)) ∧ Bdd.high L ≤ 248 := by
  obtain ⟨i0, hi, hz0, hz1, hz2⟩ := info_parts Tryz.info_int
  go_enter Tryz.func25, Tryz.ntmps25
  go_wp2_with fail
  refine (snew_any 8 30000 _ (by omega) (by omega) (by omega) (by omega)).mono ?_
  rintro e w1 ⟨s, B, rfl, hs, hF, hB⟩
  have S1 : Ses w w1 s B 8 30000 false [] := ⟨hs, hF, hB⟩
  clear hs hF hB
  go_wp2_with fail
  go_loopg [8, 9, 10] k (fun kk lv mv i wr => ∃ j : Nat, j ≤ k ∧ kk = k - j ∧ i = .int .i64 (j : Int) ∧ TwoRel w1 lv mv (evens j) (odds j) wr)
  case atStart => exact ⟨0, by omega, by omega, rfl, TwoRel.start w1⟩
  case round =>
    obtain ⟨j, hj, hk, rfl, hT⟩ := hrel
    by_cases hlt : j < k
    · have hw1 : IntKind.i64.wrap (2 * (j : Int)) = 2 * (j : Int) := IntWalk.i64_in _ (by omega)
      have hw2 : IntKind.i64.wrap (2 * (j : Int) + 1) = 2 * (j : Int) + 1 := IntWalk.i64_in _ (by omega)
      have hel := evens_len j
      have hol := odds_len j
      have hes := Lib.hid (evens_succ j)
      have hos := Lib.hid (odds_succ j)
      have HT := Lib.hid hT
      clear hT
      generalize evens j = ev at *
      generalize odds j = od at *
      go_wp2_with (at_builtin; go_loud (refine wpList_append_lies _ rfl _ _ _ rfl 0 3 i0 (.int .i64 0) 1 8 Tryz.underlying120 hi hz0 hz1 hz2 rfl (by omega) u8 ev.length _ rfl (HT.out.l.alloc _) ⟨wr.heap.size, 0, none⟩ 1 1 [.int .i64 ((2 * j : Nat) : Int)] rfl rfl ?hnews ?h1 (by omega) ?h63 (by omega) (Nat.zero_le _) (wr.heap.size + 1) (by simp) ?_))
      case hnews =>
        intro i u hi
        have : i = 0 := by simpa using (List.getElem?_eq_some_iff.1 hi).1
        subst this
        simp only [List.getElem?_cons_zero, Option.some.injEq] at hi
        subst hi
        exact (Blk.new wr #[.int .i64 ((2 * j : Nat) : Int)] 3).cell 0 rfl
      case h1 =>
        intro u hu
        simp only [List.mem_singleton] at hu
        subst hu; rfl
      case h63 => unfold maxLen; omega
      · intro g cap w2 hown2 hgrow2 hat2 hglt2
        have T2 := Lib.hid (HT.out.push hes.out hel hown2 hgrow2 hat2)
        clear hown2 hgrow2 hat2 hglt2
        go_wp2_with (at_builtin; go_loud (refine wpList_append_lies _ rfl _ _ _ rfl 0 3 i0 (.int .i64 0) 1 8 Tryz.underlying120 hi hz0 hz1 hz2 rfl (by omega) u9 od.length _ rfl (T2.out.m.alloc _) ⟨w2.heap.size, 0, none⟩ 1 1 [.int .i64 ((2 * j + 1 : Nat) : Int)] rfl rfl ?hnews ?h1 (by omega) ?h63 (by omega) (Nat.zero_le _) (w2.heap.size + 1) (by simp) ?_))
        case hnews =>
          intro i u hi
          have : i = 0 := by simpa using (List.getElem?_eq_some_iff.1 hi).1
          subst this
          simp only [List.getElem?_cons_zero, Option.some.injEq] at hi
          subst hi
          exact (Blk.new w2 #[.int .i64 ((2 * j + 1 : Nat) : Int)] 3).cell 0 rfl
        case h1 =>
          intro u hu
          simp only [List.mem_singleton] at hu
          subst hu; rfl
        case h63 => unfold maxLen; omega
        · intro g2 cap2 w3 hown3 hgrow3 hat3 hglt3
          have T3 := Lib.hid ((T2.out.swap.push hos.out hol hown3 hgrow3 hat3).swap)
          clear hown3 hgrow3 hat3 hglt3
          go_wp2
          go_roundg (k - (j + 1))
          case measure => omega
          case rel => exact ⟨j + 1, by omega, rfl, by go_num, T3.out⟩
    · have e : j = k := by omega
      subst e
      have S2 := S1.then hT.fr
      have hBlt := S1.sto.mem.2
      have hIl := hT.l
      have hIm := hT.m
      have hol : ∀ k, u8.ownBlock = some k → k ∉ B := fun k hk hb => by have := hT.lown k hk; have := hBlt k hb; omega
      have hom : ∀ k, u9.ownBlock = some k → k ∉ B := fun k hk hb => by have := hT.mown k hk; have := hBlt k hb; omega
      clear hT S1
      go_wp2_with fail
      refine (vars_any' S2.sto hIl hol (by rw [evens_len]; omega) (by rw [evens_len]; omega) (fun i x hx => by have := evens_get hx; omega) (by rw [evens_len]; show Bdd.high [] + 31 * j + 256 < 30000; have : Bdd.high [] = 0 := rfl; omega)).mono ?_
      rintro e w2 ⟨va, ha, B2, L2, rfl, hW, hl, hD⟩
      rw [evens_len] at hl
      have S3 := S2.evo hW.evo
      have A3 := hW.at
      have hI3 := row_fr hIm hW.evo.fr hom
      have hom3 : ∀ k, u9.ownBlock = some k → k ∉ B2 := fun k hk hb => by
        rcases hW.evo.own k hb with h1 | h1
        · exact hom k hk h1
        · have := row_lt hIm hk; omega
      have hh3 : Bdd.high L2 ≤ 31 * j := by
        have := hW.evo.gr.hi
        rw [evens_len] at this
        have e0 : Bdd.high [] = 0 := rfl
        omega
      have HD := Lib.hid hD
      clear hW hD S2 hol hom hIl hIm
      go_wp2_with fail
      refine (vars_any' S3.sto hI3 hom3 (by rw [odds_len]; omega) (by rw [odds_len]; omega) (fun i x hx => by have := odds_get hx; omega) (by rw [odds_len]; omega)).mono ?_
      rintro e w3 ⟨vb, hb, B3, L3, rfl, hW, hl2, hD2⟩
      rw [odds_len] at hl2
      have S4 := S3.evo hW.evo
      have A4 := A3.evo hW.evo
      have B4 := hW.at
      have hh4 : Bdd.high L3 ≤ 248 := by
        have := hW.evo.gr.hi
        rw [odds_len] at this
        omega
      have D1 : DenL 8 L3 ha (fun i y => y (2 * i)) := fun i h hh => by
        have h1 := (HD.out.more S3.sto.wf hW.evo.gr) i h hh
        have hi := (List.getElem?_eq_some_iff.1 hh).1
        exact h1.fn fun y => by show y ((evens j).getD i 0) = y (2 * i); rw [evens_getD (by omega)]
      have D2 : DenL 8 L3 hb (fun i y => y (2 * i + 1)) := fun i h hh => by
        have h1 := hD2 i h hh
        have hi := (List.getElem?_eq_some_iff.1 hh).1
        exact h1.fn fun y => by show y ((odds j).getD i 0) = y (2 * i + 1); rw [odds_getD (by omega)]
      have hfin : ∃ (s' : Nat) (va' vb' : Value) (ha hb : List Nat) (B : List Nat) (L : List Bdd.Nd), Ending.returned (.tuple #[.pointer (some ⟨s, 0, none⟩), va, vb, .bool true]) = .returned (.tuple #[.pointer (some ⟨s', 0, none⟩), va', vb', .bool true]) ∧
          Ses w w3 s' B 8 30000 false L ∧ WAt w3 B va' ha ∧ WAt w3 B vb' hb ∧ ha.length = j ∧ hb.length = j ∧ DenL 8 L ha (fun i y => y (2 * i)) ∧ DenL 8 L hb (fun i y => y (2 * i + 1)) ∧ Bdd.high L ≤ 248 :=
        ⟨s, va, vb, ha, hb, B3, L3, rfl, S4, A4, B4, hl, hl2, D1, D2, hh4⟩
      have HF := Lib.hid hfin
      clear hfin S4 A4 B4 D1 D2 hW hD2 HD S3 A3 hI3
      go_wp2
      refine bodyPost_ret (results_tmp4 rfl _ _ _) rfl ?_
      exact HF.out
end
end Go.Proofs.YtiojnjihbidbiaaGreat

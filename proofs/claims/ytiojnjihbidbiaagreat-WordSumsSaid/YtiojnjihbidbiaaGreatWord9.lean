/- The word laws' known answers. -/
import Derived.Test.YtiojnjihbidbiaaGreatWord8
namespace Go.Proofs.YtiojnjihbidbiaaGreat
open Go.RowKit
attribute [local go_sem ↓] Go.wp_at_zero Go.wp_at_succ
set_option linter.unusedVariables false

theorem known_sum (i : Nat) (hi : i < 2) (y : Nat → Bool) : sumF addC (conF 1) (conF 1) i y = conF 2 i y := by
  match i, hi with
  | 0, _ => simp [sumF, cry, conF]
  | 1, _ => simp [sumF, cry, conF, addC]
theorem known_over (y : Nat → Bool) : cry addC (conF 1) (conF 1) 2 y = false := by simp [cry, conF, addC]

set_option maxHeartbeats 2000000 in
set_option maxRecDepth 4000 in
theorem known26 (w : World) : Calls Tryz.prog 24 #[] w fun e w' => e = .returned (.bool true) ∧ Fr [] w w' := by
  go_enter Tryz.func24, Tryz.ntmps24
  go_wp2_with fail
  refine (snew_any 4 2000 _ (by omega) (by omega) (by omega) (by omega)).mono ?_
  rintro e w1 ⟨s, B, rfl, hs, hF, hB⟩
  have S1 : Ses w w1 s B 4 2000 false [] := ⟨hs, hF, hB⟩
  clear hs hF hB
  have FI : Fr [] w1 (w1.alloc (.cells #[.int .i64 0, .int .i64 1] 3)) := (Fr.refl [] w1).alloc _
  have hI : IntsAt (w1.alloc (.cells #[.int .i64 0, .int .i64 1] 3)) (.slice (some ⟨w1.heap.size, 0, none⟩) 2 2) [0, 1] := row_lit (Blk.new w1 #[.int .i64 0, .int .i64 1] 3) (by unfold maxLen; simp)
  have S2 := S1.then FI
  go_wp2_with fail
  refine (vars_any' S2.sto hI (fun k hk hb => by
    simp only [Value.ownBlock, Option.some.injEq] at hk
    subst hk
    exact Nat.lt_irrefl _ (S1.sto.mem.2 _ hb)) (by simp) (by simp) (fun i x hx => by
      match i, hx with
      | 0, hx => obtain rfl := Option.some.inj hx; omega
      | 1, hx => obtain rfl := Option.some.inj hx; omega
      | i + 2, hx => simp at hx) (by show Bdd.high [] + 31 * 2 + 256 < 2000; simp [Bdd.high])).mono ?_
  rintro e w2 ⟨va, ha, B2, L2, rfl, hW, hl, hD⟩
  have S3 := S2.evo hW.evo
  have A3 := hW.at
  have hh3 : Bdd.high L2 ≤ 62 := by have := hW.evo.gr.hi; simpa [Bdd.high] using this
  have HD := Lib.hid hD
  clear hW hD S1 S2 FI hI
  go_wp2_with fail
  refine (const_any 1 2 _ (by omega) (by omega) (by omega)).mono ?_
  rintro e w3 ⟨vb, rfl, hb⟩
  have S4 := S3.then hb.2.1
  have A4 := A3.then hb.2.1
  have B4 := hb.at S3.sto.mem.2
  clear hb S3 A3
  go_wp2_with fail
  refine (const_any 1 2 _ (by omega) (by omega) (by omega)).mono ?_
  rintro e w4 ⟨vc, rfl, hc⟩
  have S5 := S4.then hc.2.1
  have A5 := A4.then hc.2.1
  have B5 := B4.then hc.2.1
  have C5 := hc.at S4.sto.mem.2
  clear hc S4 A4 B4
  go_wp2_with fail
  refine (add_word (m := 2) S5.sto B5.row C5.row B5.own C5.own (constL_len 1 2) (constL_len 1 2) (by omega) (by omega) (den_const 1 2) (den_const 1 2) (by omega)).mono ?_
  rintro e w5 ⟨vd, hd, kd, B6, L6, rfl, hW, hl2, hD2, hK⟩
  have S6 := S5.evo hW.evo
  have A6 := A5.evo hW.evo
  have D6 := hW.at
  have hda : hd = [0, 1] := by
    have := hD2.eq (den_const 2 2) S6.sto.wf hl2 (constL_len 2 2) (fun i hi y => known_sum i hi y)
    rw [this]; rfl
  have hka : kd = 0 := hK.eq Den.zero S6.sto.wf known_over
  have HD6 := Lib.hid (HD.out.more S5.sto.wf hW.evo.gr)
  subst hda
  subst hka
  clear hW hl2 hD2 hK S5 A5 B5 C5 HD
  go_wp2_with fail
  refine (eval_any (m := 2) (x := 6) S6.sto A6.row A6.own (by rw [hl]; rfl) (by omega) (by omega) HD6.out (by omega)).mono ?_
  rintro e w6 ⟨rfl, hF6⟩
  have S7 := S6.then hF6
  have A7 := A6.then hF6
  have D7 := D6.then hF6
  clear S6 A6 D6 hF6
  go_wp2_with fail
  refine (mul_nil (m := 2) S7.sto A7.row (by rw [hl]; rfl) (by omega) (by omega) HD6.out).mono ?_
  rintro e w7 ⟨rfl, hF7⟩
  have S8 := S7.then hF7
  have D8 := D7.then hF7
  clear S7 A7 D7 hF7
  have FI : Fr [] w7 (w7.alloc (.cells #[.int .i64 4] 3)) := (Fr.refl [] w7).alloc _
  have hI : IntsAt (w7.alloc (.cells #[.int .i64 4] 3)) (.slice (some ⟨w7.heap.size, 0, none⟩) 1 1) [4] := row_lit (Blk.new w7 #[.int .i64 4] 3) (by unfold maxLen; simp)
  have S9 := S8.then FI
  have D9 := D8.then FI
  clear S8 D8 FI
  go_wp2_with fail
  refine (vars_bad S9.sto (a := 4) (by omega) (by omega) hI).mono ?_
  rintro e w8 ⟨rfl, rfl⟩
  obtain ⟨gd, cap, rfl, cd0⟩ := D9.row.get (i := 0) (x := 0) rfl
  obtain ⟨gd', cap', e, cd1⟩ := D9.row.get (i := 1) (x := 1) rfl
  injection e with e1 e3 e4
  obtain rfl : gd = gd' := by simpa using e1
  have HF := Lib.hid S9.fr
  have hnum : ((numOf (fun i y => y ([0, 1].getD i 0)) (xbit 6) 2 : Nat) : Int) = 2 := by rfl
  clear S9 D9 hI HD6 e1 e3 e4 hl hh3
  go_wp2
  go_ret
  exact ⟨rfl, HF.out⟩
end Go.Proofs.YtiojnjihbidbiaaGreat

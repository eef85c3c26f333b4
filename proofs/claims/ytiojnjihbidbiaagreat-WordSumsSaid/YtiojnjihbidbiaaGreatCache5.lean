/- The store's Recall, walked: a look-up driven to its end. -/
import Derived.Test.YtiojnjihbidbiaaGreatCache4
namespace Go.Proofs.YtiojnjihbidbiaaGreat
open Go.RowKit
attribute [local go_sem ↓] Go.wp_at_zero Go.wp_at_succ
set_option linter.unusedVariables false

set_option maxHeartbeats 2000000 in
/-- What is recalled stands in the key's line. -/
theorem recall_on (s cc m cb : Nat) (C : List Nat) (op mk a b c : Nat) (w : World) (c7 : w.cell? ⟨s, 7, none⟩ = some (.bool false)) (c6 : w.cell? ⟨s, 6, none⟩ = some (.pointer (some ⟨cc, 0, none⟩))) (hC : CacheAt w cc m cb C)
    (ho : op < 256) (hm : mk < 256) (ha : a < 65536) (hb : b < 65536) (hc : c < 65536) (hv : K0 C (3 * homeF 256 (Bdd.wordN op mk a b c)) < 2 ^ 64)
    (hval : K0 C (3 * homeF 256 (Bdd.wordN op mk a b c)) % 4 = 2 → K0 C (3 * homeF 256 (Bdd.wordN op mk a b c) + 1) = Bdd.wordN op mk a b c → K0 C (3 * homeF 256 (Bdd.wordN op mk a b c) + 2) < 2 ^ 32) :
    Calls Tryz.prog 209 #[.pointer (some ⟨s, 0, none⟩), .int .u8 (op : Int), .int .u8 (mk : Int), .int .u32 (a : Int), .int .u32 (b : Int), .int .u32 (c : Int)] w fun e w' => CacheAt w' cc m cb C ∧ Fr [m] w w' ∧
      (e = .returned (.tuple #[.int .u32 0, .bool false]) ∨
       (e = .returned (.tuple #[.int .u32 (K0 C (3 * homeF 256 (Bdd.wordN op mk a b c) + 2) : Nat), .bool true]) ∧ K0 C (3 * homeF 256 (Bdd.wordN op mk a b c)) % 4 = 2 ∧ K0 C (3 * homeF 256 (Bdd.wordN op mk a b c) + 1) = Bdd.wordN op mk a b c)) := by
  have hkl := homeF_lt (show 0 < 256 by omega) (Bdd.wordN op mk a b c)
  go_enter Tryz.func209, Tryz.ntmps209
  go_wp2_with fail
  go_region_held3 (fun w' => w'.cell? ⟨s, 6, none⟩ = some (.pointer (some ⟨cc, 0, none⟩))) (go_keep)
    (first
     | (go_at_call 254; refine (word_any op mk a b c _ ho hm ha hb hc).mono ?_; rintro e w1 ⟨rfl, rfl⟩)
     | (go_at_call 253; refine (get_any cc m cb C (Bdd.wordN op mk a b c) _ (by exact hC)).mono ?_; rintro e w1 ⟨f, rfl, hB, hC1, hF, hf⟩; have k6 := hF.cell (by exact c6) (by simp)))
  replace hf : w.heap.size ≤ f := hf
  have hne := hC1.2.2.1
  have hlt := hC1.lt
  have hltw := hC.lt
  have hM1 := hC1.2.1
  have hl := hC1.2.2.2.2
  have hc1 := hC1.1
  have hff : f ≠ m ∧ f ≠ cb := by omega
  have hfc : f ≠ cc := by omega
  have hcm : cc ≠ m ∧ cc ≠ cb := ⟨hC1.2.2.1, hC1.2.2.2.1⟩
  have HV := Lib.hid hv
  have HVAL := Lib.hid hval
  clear hv hval
  by_cases h1 : K0 C (3 * homeF 256 (Bdd.wordN op mk a b c)) % 4 = 2
  · have H1 := Lib.hid h1
    clear h1
    by_cases h2 : K0 C (3 * homeF 256 (Bdd.wordN op mk a b c) + 1) = Bdd.wordN op mk a b c
    · have H2 := Lib.hid h2
      clear h2
      have hv32 := HVAL.out H1.out H2.out
      have hw32 : IntKind.u32.wrap (K0 C (3 * homeF 256 (Bdd.wordN op mk a b c) + 2) : Int) = (K0 C (3 * homeF 256 (Bdd.wordN op mk a b c) + 2) : Int) := by rw [IntKind.wrap_u32]; omega
      go_wp2_with fail
      refine wp_loop_rounds 5 ?_
      rw [rounds_succ]
      go_wp2_with fail
      refine (salooks_any f m cb C _ _ _ _ _ _ _ hB hM1 hff hl (by omega) HV.out false (by have := H1.out; simp; omega)).mono ?_
      rintro e w2 ⟨rfl, hB2, hM2, hF2⟩
      go_wp2_with fail
      rw [rounds_succ]
      go_wp2_with fail
      refine (sacompares_any f m cb C _ _ _ _ _ _ _ hB2 hM2 hff hl (by omega) false (by rw [H2.out]; simp)).mono ?_
      rintro e w3 ⟨rfl, hB3, hM3, hF3⟩
      go_wp2_with fail
      rw [rounds_succ]
      go_wp2_with fail
      refine (sareads_any f m cb C _ _ _ _ _ _ _ hB3 hM3 hff hl (by omega)).mono ?_
      rintro e w4 ⟨rfl, hB4, hM4, hF4⟩
      go_wp2_with fail
      rw [rounds_succ]
      go_wp2_with fail
      refine (satrusts_any f m cb C _ _ _ _ _ _ _ hB4 hM4 hff hl (by omega) (by simp)).mono ?_
      rintro e w5 ⟨rfl, hB5, hM5, hF5⟩
      go_wp2_with fail
      refine (got_ok f _ _ _ _ _ _ _ _ hB5).mono ?_
      rintro e w6 ⟨rfl, rfl⟩
      go_wp2
      go_ret2
      have F := ((((hF.undrew.of [m]).trans hF2 (by simp; omega)).trans hF3 (by simp; omega)).trans hF4 (by simp; omega)).trans hF5 (by simp; omega)
      have FF := ((hF2.trans hF3 (by simp)).trans hF4 (by simp)).trans hF5 (by simp)
      exact ⟨⟨hc1.fr FF (by simp; omega), hM5, hcm.1, hcm.2, hl⟩, F, .inr ⟨rfl, H1.out, H2.out⟩⟩
    · go_wp2_with fail
      refine wp_loop_rounds 3 ?_
      rw [rounds_succ]
      go_wp2_with fail
      refine (salooks_any f m cb C _ _ _ _ _ _ _ hB hM1 hff hl (by omega) HV.out false (by have := H1.out; simp; omega)).mono ?_
      rintro e w2 ⟨rfl, hB2, hM2, hF2⟩
      go_wp2_with fail
      rw [rounds_succ]
      go_wp2_with fail
      refine (sacompares_any f m cb C _ _ _ _ _ _ _ hB2 hM2 hff hl (by omega) true (by simp; omega)).mono ?_
      rintro e w3 ⟨rfl, hB3, hM3, hF3⟩
      go_wp2_with fail
      refine (got_not f _ _ _ _ _ _ _ _ hB3).mono ?_
      rintro e w6 ⟨rfl, rfl⟩
      go_wp2
      go_ret2
      have F := ((hF.undrew.of [m]).trans hF2 (by simp; omega)).trans hF3 (by simp; omega)
      have FF := hF2.trans hF3 (by simp)
      exact ⟨⟨hc1.fr FF (by simp; omega), hM3, hcm.1, hcm.2, hl⟩, F, .inl rfl⟩
  · have H1 := Lib.hid h1
    clear h1
    go_wp2_with fail
    refine wp_loop_rounds 2 ?_
    rw [rounds_succ]
    go_wp2_with fail
    refine (salooks_any f m cb C _ _ _ _ _ _ _ hB hM1 hff hl (by omega) HV.out true (by have := H1.out; simp; omega)).mono ?_
    rintro e w2 ⟨rfl, hB2, hM2, hF2⟩
    go_wp2_with fail
    refine (got_not f _ _ _ _ _ _ _ _ hB2).mono ?_
    rintro e w6 ⟨rfl, rfl⟩
    go_wp2
    go_ret2
    exact ⟨⟨hc1.fr hF2 (by simp; omega), hM2, hcm.1, hcm.2, hl⟩, (hF.undrew.of [m]).trans hF2 (by simp; omega), .inl rfl⟩

end Go.Proofs.YtiojnjihbidbiaaGreat

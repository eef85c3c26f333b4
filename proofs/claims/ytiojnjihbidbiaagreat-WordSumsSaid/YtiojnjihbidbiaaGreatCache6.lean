/- The store's Note, walked: a writing driven to its end. -/
import Derived.Test.YtiojnjihbidbiaaGreatCache4
namespace Go.Proofs.YtiojnjihbidbiaaGreat
open Go.RowKit
attribute [local go_sem ↓] Go.wp_at_zero Go.wp_at_succ
set_option linter.unusedVariables false

theorem note_off (s : Nat) (op mk a b c v : Int) (w : World) (c7 : w.cell? ⟨s, 7, none⟩ = some (.bool true)) :
    Calls Tryz.prog 211 #[.pointer (some ⟨s, 0, none⟩), .int .u8 op, .int .u8 mk, .int .u32 a, .int .u32 b, .int .u32 c, .int .u32 v] w fun e w' => e = .returned (.tuple #[]) ∧ w = w' := by
  go_enter Tryz.func211, Tryz.ntmps211
  go_wp2
  refine bodyPost_ret (results_none rfl _ _ _) rfl ?_
  exact ⟨rfl, rfl⟩

/-- The cells behind a writing: the line is locked, written, free in a later version. -/
def noted (C : List Nat) (p k v : Nat) : List Nat := (((C.set p (K0 C p + 1)).set (p + 1) k).set (p + 2) v).set p (verF (K0 C p))

theorem K0_set (K : List Nat) (s t v : Nat) (hs : s < K.length) : K0 (K.set s v) t = if t = s then v else K0 K t := Bdd.getD_set K s t v hs

theorem noted_eq {C : List Nat} {l k v : Nat} (hl : 3 * l + 2 < C.length) : noted C (3 * l) k v = Bdd.putLine C l (verF (K0 C (3 * l))) k v := by
  unfold noted Bdd.putLine
  apply List.ext_getElem?
  intro i
  simp only [List.getElem?_set, List.length_set]
  by_cases h0 : 3 * l = i
  · simp [h0]
  · by_cases h1 : 3 * l + 1 = i
    · subst h1; simp
    · by_cases h2 : 3 * l + 2 = i
      · subst h2; simp
      · simp [h0, h1, h2]

set_option maxHeartbeats 2000000 in
theorem note_on (s cc m cb : Nat) (C : List Nat) (op mk a b c v : Nat) (w : World) (c7 : w.cell? ⟨s, 7, none⟩ = some (.bool false)) (c6 : w.cell? ⟨s, 6, none⟩ = some (.pointer (some ⟨cc, 0, none⟩))) (hC : CacheAt w cc m cb C)
    (ho : op < 256) (hm : mk < 256) (ha : a < 65536) (hb : b < 65536) (hc : c < 65536) (hvv : v < 65536) (hv : K0 C (3 * homeF 256 (Bdd.wordN op mk a b c)) < 2 ^ 64) (he : K0 C (3 * homeF 256 (Bdd.wordN op mk a b c)) % 2 = 0) :
    Calls Tryz.prog 211 #[.pointer (some ⟨s, 0, none⟩), .int .u8 (op : Int), .int .u8 (mk : Int), .int .u32 (a : Int), .int .u32 (b : Int), .int .u32 (c : Int), .int .u32 (v : Int)] w fun e w' =>
      e = .returned (.tuple #[]) ∧ CacheAt w' cc m cb (noted C (3 * homeF 256 (Bdd.wordN op mk a b c)) (Bdd.wordN op mk a b c) v) ∧ Fr [m, cb] w w' := by
  have hkl := homeF_lt (show 0 < 256 by omega) (Bdd.wordN op mk a b c)
  have hwv : IntKind.u64.wrap (v : Int) = (v : Int) := by rw [IntKind.wrap_u64]; omega
  have HV := Lib.hid hv
  have HE := Lib.hid he
  clear hv he
  go_enter Tryz.func211, Tryz.ntmps211
  go_wp2_with fail
  go_region_held3 (fun w' => w'.cell? ⟨s, 6, none⟩ = some (.pointer (some ⟨cc, 0, none⟩))) (go_keep)
    (first
     | (go_at_call 254; refine (word_any op mk a b c _ ho hm ha hb hc).mono ?_; rintro e w1 ⟨rfl, rfl⟩)
     | (go_at_call 258; refine (put_any cc m cb C (Bdd.wordN op mk a b c) v _ (by exact hC)).mono ?_; rintro e w1 ⟨f, rfl, hB, hC1, hF, hf⟩; have k6 := hF.cell (by exact c6) (by simp)))
  replace hf : w.heap.size ≤ f := hf
  have hlt := hC1.lt
  have hltw := hC.lt
  have hM1 := hC1.2.1
  have hl := hC1.2.2.2.2
  have hc1 := hC1.1
  have hff : f ≠ m ∧ f ≠ cb := by omega
  have hcm : cc ≠ m ∧ cc ≠ cb := ⟨hC1.2.2.1, hC1.2.2.2.1⟩
  have len1 : (C.set (3 * homeF 256 (Bdd.wordN op mk a b c)) (K0 C (3 * homeF 256 (Bdd.wordN op mk a b c)) + 1)).length = 768 := by simp [hl]
  have len2 : ((C.set (3 * homeF 256 (Bdd.wordN op mk a b c)) (K0 C (3 * homeF 256 (Bdd.wordN op mk a b c)) + 1)).set (3 * homeF 256 (Bdd.wordN op mk a b c) + 1) (Bdd.wordN op mk a b c)).length = 768 := by simp [hl]
  have len3 : (((C.set (3 * homeF 256 (Bdd.wordN op mk a b c)) (K0 C (3 * homeF 256 (Bdd.wordN op mk a b c)) + 1)).set (3 * homeF 256 (Bdd.wordN op mk a b c) + 1) (Bdd.wordN op mk a b c)).set (3 * homeF 256 (Bdd.wordN op mk a b c) + 2) v).length = 768 := by simp [hl]
  have L1 := Lib.hid len1
  have L2 := Lib.hid len2
  have L3 := Lib.hid len3
  clear len1 len2 len3
  go_wp2_with fail
  refine wp_loop_rounds 6 ?_
  rw [rounds_succ]
  go_wp2_with fail
  refine (saopens_any f m cb C _ _ _ _ _ _ _ hB hM1 hff hl (by omega) HV.out HE.out).mono ?_
  rintro e w2 ⟨rfl, hB2, hM2, hF2⟩
  go_wp2_with fail
  rw [rounds_succ]
  go_wp2_with fail
  refine (salocks_any f m cb C _ _ _ _ _ _ _ hB2 hM2 hff hl (by omega) HV.out HE.out rfl).mono ?_
  rintro e w3 ⟨rfl, hB3, hM3, hF3⟩
  go_wp2_with fail
  rw [rounds_succ]
  go_wp2_with fail
  refine (sakeys_any f m cb _ _ _ _ _ _ _ _ hB3 hM3 hff L1.out (by rw [L1.out]; omega)).mono ?_
  rintro e w4 ⟨rfl, hB4, hM4, hF4⟩
  go_wp2_with fail
  rw [rounds_succ]
  go_wp2_with fail
  refine (savals_any f m cb _ _ _ _ _ _ _ _ hB4 hM4 hff L2.out (by rw [L2.out]; omega)).mono ?_
  rintro e w5 ⟨rfl, hB5, hM5, hF5⟩
  go_wp2_with fail
  rw [rounds_succ]
  go_wp2_with fail
  refine (saopensAgain_any f m cb _ _ _ _ _ _ _ _ hB5 hM5 hff L3.out (by rw [L3.out]; omega) HV.out).mono ?_
  rintro e w6 ⟨rfl, hB6, hM6, hF6⟩
  go_wp2
  go_end0
  have FF := ((((hF2.mono (O' := [f, m, cb]) (by simp)).trans hF3 (by simp)).trans hF4 (by simp)).trans hF5 (by simp)).trans hF6 (by simp)
  have F := (hF.undrew.of [m, cb]).trans FF (by simp; omega)
  refine ⟨rfl, ⟨hc1.fr FF (by simp; omega), hM6, hcm.1, hcm.2, by unfold noted; simp [hl]⟩, F⟩

end Go.Proofs.YtiojnjihbidbiaaGreat

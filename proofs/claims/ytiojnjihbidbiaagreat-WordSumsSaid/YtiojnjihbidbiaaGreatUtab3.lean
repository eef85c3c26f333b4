/- Package utable, walked, its third part: a finder begun; a finder driven to its end lays a new key into the first empty slot. -/
import Derived.Test.YtiojnjihbidbiaaGreatUtab2
namespace Go.Proofs.YtiojnjihbidbiaaGreat
open Go.RowKit
attribute [local go_sem ↓] Go.wp_at_zero Go.wp_at_succ
set_option linter.unusedVariables false

theorem find_any (t m cb : Nat) (K : List Nat) (key : Nat) (w : World) (hT : TableAt w t m cb K) (hk : key ≠ 0) :
    Calls Tryz.prog 249 #[.pointer (some ⟨t, 0, none⟩), .int .u64 (key : Int)] w fun e w' => ∃ f, e = .returned (.pointer (some ⟨f, 0, none⟩)) ∧
      Blk w' f (fcells t key (homeF K.length key) K.length (looksV f) false (-1) 61 false) 319 ∧ TableAt w' t m cb K ∧ Fr [] w w' ∧ w.heap.size ≤ f := by
  have hTT := hT
  obtain ⟨ht, hm, hne, hne2, hl1, hl3⟩ := hT
  have t2 := ht.cell 2 rfl
  have hk' : ((key : Int) == 0) = false := ne_test0 hk
  go_enter Tryz.func249, Tryz.ntmps249
  go_wp2_with fail
  go_region_held3 (fun w' => w'.cell? ⟨t, 2, none⟩ = some (.int .i64 (K.length : Nat))) (go_keep)
    ((go_at_call 216; refine (home_any key _ _ (by omega) (by omega)).mono ?_; rintro e w1 ⟨rfl, rfl⟩))
  go_wp2
  go_ret
  refine ⟨_, rfl, (Blk.new w _ _).drew, ?_, ?_, Nat.le_refl _⟩
  · exact TableAt.fr hTT (((Fr.refl [] w).alloc _).drew) (by simp) (by simp) (by simp)
  · exact ((Fr.refl [] w).alloc _).drew

/-- Between two steps of a finder for a key that is nowhere in the table: j: how far the first empty slot lies from the key's home. -/
def FindRel (t m cb f : Nat) (K : List Nat) (key j : Nat) (w0 : World) (k : Nat) (wr : World) : Prop :=
  TableAt wr t m cb K ∧ Fr [m, cb] w0 wr ∧
  ((∃ i, i ≤ j ∧ k = (j - i) + 2 ∧ Blk wr f (fcells t key ((homeF K.length key + i) % K.length) (K.length - i) (looksV f) false (-1) 61 false) 319) ∨
   (k = 1 ∧ Blk wr f (fcells t key ((homeF K.length key + j) % K.length) (K.length - j) (claimsV f) false (-1) 61 false) 319))

theorem FindRel.start {t m cb f : Nat} {K : List Nat} {key j : Nat} {w0 wr : World} (hS : 0 < K.length) (hT : TableAt wr t m cb K) (hF : Fr [] w0 wr)
    (hB : Blk wr f (fcells t key (homeF K.length key) K.length (looksV f) false (-1) 61 false) 319) : FindRel t m cb f K key j w0 (j + 2) wr := by
  refine ⟨hT, hF.mono (by simp), .inl ⟨0, by omega, by omega, ?_⟩⟩
  rw [Nat.add_zero, Nat.mod_eq_of_lt (homeF_lt hS key)]
  exact hB

theorem FindRel.more {t m cb f : Nat} {K : List Nat} {key j i : Nat} {w0 wr w2 : World} (hi : i < j) (hj : j < K.length) (hF : Fr [m, cb] w0 wr) (hf : w0.heap.size ≤ f)
    (hB : Blk w2 f (fcells t key (((homeF K.length key + i) % K.length + 1) % K.length) (K.length - i - 1) (looksV f) false (-1) 61 false) 319) (hT : TableAt w2 t m cb K) (hF2 : Fr [f, m] wr w2) :
    FindRel t m cb f K key j w0 (j - i - 1 + 2) w2 := by
  refine ⟨hT, hF.trans hF2 (by simp; omega), .inl ⟨i + 1, by omega, by omega, ?_⟩⟩
  rw [show homeF K.length key + (i + 1) = (homeF K.length key + i) + 1 by omega, ← Nat.mod_add_mod]
  exact hB

theorem FindRel.zero {t m cb f : Nat} {K : List Nat} {key j : Nat} {w0 wr w2 : World} (hF : Fr [m, cb] w0 wr) (hf : w0.heap.size ≤ f)
    (hB : Blk w2 f (fcells t key ((homeF K.length key + j) % K.length) (K.length - j) (claimsV f) false (-1) 61 false) 319) (hT : TableAt w2 t m cb K) (hF2 : Fr [f, m] wr w2) :
    FindRel t m cb f K key j w0 1 w2 :=
  ⟨hT, hF.trans hF2 (by simp; omega), .inr ⟨rfl, hB⟩⟩

set_option maxHeartbeats 400000 in
theorem finds_new (s t m cb : Nat) (K : List Nat) (key j : Nat) (w : World) (c4 : w.cell? ⟨s, 4, none⟩ = some (.pointer (some ⟨t, 0, none⟩))) (hT : TableAt w t m cb K) (hk : key ≠ 0)
    (hj : j < K.length) (hz : K0 K ((homeF K.length key + j) % K.length) = 0) (hp : ∀ i, i < j → K0 K ((homeF K.length key + i) % K.length) ≠ 0 ∧ K0 K ((homeF K.length key + i) % K.length) ≠ key) :
    Calls Tryz.prog 208 #[.pointer (some ⟨s, 0, none⟩), .int .u64 (key : Int)] w fun e w' => e = .returned (.tuple #[.int .i64 (((homeF K.length key + j) % K.length : Nat) : Int), .bool true]) ∧
      TableAt w' t m cb (K.set ((homeF K.length key + j) % K.length) key) ∧ Fr [m, cb] w w' := by
  have hlt := hT.lt
  have hne := hT.2.2.1
  have hne2 := hT.2.2.2.1
  have hS : 0 < K.length := by omega
  have HZ := Lib.hid hz
  have HP := Lib.hid hp
  clear hz hp
  go_enter Tryz.func208, Tryz.ntmps208
  go_wp2_with fail
  refine (find_any t m cb K key _ hT hk).mono ?_
  rintro e w1 ⟨f, rfl, hB, hT1, hF1, hf⟩
  go_wp2_with fail
  go_loopg [18] (j + 2) (fun k _ wr => FindRel t m cb f K key j w k wr)
  case atStart =>
    exact FindRel.start hS hT1 hF1 hB
  case round =>
    obtain ⟨hTr, hFr, hr⟩ := hrel
    have hff : f ≠ t ∧ f ≠ m ∧ f ≠ cb := by omega
    rcases hr with ⟨i, hi, hgk, hBr⟩ | ⟨hgk, hBr⟩
    · subst hgk
      by_cases e : i = j
      · subst e
        go_wp2_with fail
        refine (step_zero f t m cb K key _ _ false _ hBr hTr hff (Nat.mod_lt _ hS) HZ.out hk).mono ?_
        rintro e w2 ⟨rfl, hB2, hT2, hF2⟩
        go_wp2
        go_roundg 1
        case measure => omega
        case rel => exact FindRel.zero hFr hf hB2 hT2 hF2
      · have hij : i < j := by omega
        clear e
        go_wp2_with fail
        refine (step_other f t m cb K key _ _ false _ hBr hTr hff (Nat.mod_lt _ hS) (by omega) (by omega) (HP.out i hij).1 (HP.out i hij).2).mono ?_
        rintro e w2 ⟨rfl, hB2, hT2, hF2⟩
        go_wp2
        go_roundg (j - i - 1 + 2)
        case measure => omega
        case rel => exact FindRel.more hij hj hFr hf hB2 hT2 hF2
    · subst hgk
      go_wp2_with fail
      refine (step_claims f t m cb K key _ _ _ hBr hTr hff (Nat.mod_lt _ hS) HZ.out).mono ?_
      rintro e w2 ⟨rfl, hB2, hT2, hF2⟩
      go_wp2_with fail
      refine (slot_any f _ _ _ _ _ _ _ _ _ _ hB2).mono ?_
      rintro e w3 ⟨rfl, hB3, hF3⟩
      go_wp2_with fail
      refine (made_any f _ _ _ _ _ _ _ _ _ _ hB3).mono ?_
      rintro e w4 ⟨rfl, rfl⟩
      go_wp2
      go_ret2
      exact ⟨rfl, hT2.fr hF3 (by simp) (by simp) (by simp), (hFr.trans hF2 (by simp; omega)).trans hF3 (by simp)⟩
end Go.Proofs.YtiojnjihbidbiaaGreat

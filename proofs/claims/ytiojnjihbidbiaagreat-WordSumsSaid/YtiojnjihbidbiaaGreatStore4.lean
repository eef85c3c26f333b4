/- A node laid into a store's table, walked. -/
import Derived.Test.YtiojnjihbidbiaaGreatStore3
namespace Go.Proofs.YtiojnjihbidbiaaGreat
open Go.RowKit
attribute [local go_sem ↓] Go.wp_at_zero Go.wp_at_succ
set_option linter.unusedVariables false

theorem slf_set (sl : Nat → Option Nat) (s h : Nat) : (fun y : Int => if y = (s : Int) then some (Value.int .u32 (h : Int)) else slf sl y) = slf (fun t => if t = s then some h else sl t) := by
  funext y
  unfold slf
  by_cases e : y = (s : Int)
  · subst e; simp
  · rw [if_neg e]
    by_cases h0 : 0 ≤ y
    · rw [if_pos h0, if_pos h0]; simp only []; rw [if_neg (by omega)]
    · rw [if_neg h0, if_neg h0]

theorem keyN_ne {d : Bdd.Nd} (h : d.lo ≠ d.hi) : Bdd.keyN d ≠ 0 := by unfold Bdd.keyN; omega

theorem finds_slot (s t m cb : Nat) (K : List Nat) (key j slot : Nat) (w : World) (hs : slot = (homeF K.length key + j) % K.length) (c4 : w.cell? ⟨s, 4, none⟩ = some (.pointer (some ⟨t, 0, none⟩))) (hT : TableAt w t m cb K) (hk : key ≠ 0)
    (hj : j < K.length) (hz : K0 K ((homeF K.length key + j) % K.length) = 0) (hp : ∀ i, i < j → K0 K ((homeF K.length key + i) % K.length) ≠ 0 ∧ K0 K ((homeF K.length key + i) % K.length) ≠ key) :
    Calls Tryz.prog 208 #[.pointer (some ⟨s, 0, none⟩), .int .u64 (key : Int)] w fun e w' => e = .returned (.tuple #[.int .i64 (slot : Int), .bool true]) ∧
      TableAt w' t m cb (K.set slot key) ∧ Fr [m, cb] w w' := by
  subst hs
  exact finds_new s t m cb K key j w c4 hT hk hj hz hp

set_option maxHeartbeats 1000000 in
theorem lays_any (s tab tm tc slo m : Nat) (K : List Nat) (sl : Nat → Option Nat) (L : List Bdd.Nd) (d : Bdd.Nd) (w : World) (c4 : w.cell? ⟨s, 4, none⟩ = some (.pointer (some ⟨tab, 0, none⟩))) (c5 : w.cell? ⟨s, 5, none⟩ = some (.map (some slo)))
    (hT : TableAt w tab tm tc K) (hM : MapAt w slo .i64 (slf sl)) (ht : Bdd.TabInv (homeF K.length) K sl L m) (hd : L[m]? = some d) (hk : ∀ (i : Nat) (x : Bdd.Nd), L[i]? = some x → Bdd.keyN x ≠ 0)
    (hnew : ∀ (i : Nat) (x : Bdd.Nd), i < m → L[i]? = some x → Bdd.keyN x ≠ Bdd.keyN d) (hm : m < K.length) (hl : d.lv < 256) (hlo : d.lo < 65540) (hhi : d.hi < 65540)
    (ne1 : s ≠ tm ∧ s ≠ tc) (ne2 : slo ≠ tm ∧ slo ≠ tc ∧ slo ≠ tab) :
    Calls Tryz.prog 161 #[.pointer (some ⟨s, 0, none⟩), .int .u32 ((m : Int) + 2), .agg #[.bool true, .int .i64 (d.lv : Int), .int .u32 (d.lo : Int), .int .u32 (d.hi : Int)]] w fun e w' =>
      e = .returned (.tuple #[]) ∧ ∃ K' sl', K'.length = K.length ∧ TableAt w' tab tm tc K' ∧ MapAt w' slo .i64 (slf sl') ∧ Bdd.TabInv (homeF K'.length) K' sl' L (m + 1) ∧ Fr [tm, tc, slo] w w' := by
  obtain ⟨l, lo, hi⟩ := d
  have hdk := hk m _ hd
  have hcount : K.countP (fun x => x != 0) < K.length := by rw [ht.count]; exact hm
  obtain ⟨j, hj, hz, hp⟩ := Bdd.first_zero (homeF_lt (show 0 < K.length by omega) (Bdd.keyN ⟨l, lo, hi⟩)) hcount
  have hp2 : ∀ i, i < j → K0 K ((homeF K.length (Bdd.keyN ⟨l, lo, hi⟩) + i) % K.length) ≠ 0 ∧ K0 K ((homeF K.length (Bdd.keyN ⟨l, lo, hi⟩) + i) % K.length) ≠ Bdd.keyN ⟨l, lo, hi⟩ := fun i hi' => by
    refine ⟨hp i hi', fun e => ?_⟩
    obtain ⟨i', x, hi1, hx, hkx, _⟩ := ht.of _ (Nat.mod_lt _ (by omega)) (hp i hi')
    exact hnew i' x hi1 hx (hkx.symm.trans e)
  have hins := ht.insert hd hk hj hz hp
  obtain ⟨slot, hslot⟩ : ∃ slot, slot = (homeF K.length (Bdd.keyN ⟨l, lo, hi⟩) + j) % K.length := ⟨_, rfl⟩
  rw [← hslot] at hins
  have HS := Lib.hid hslot
  clear hslot
  have Hz := Lib.hid hz
  have Hp := Lib.hid hp2
  have Hins := Lib.hid hins
  clear hz hp hp2 hins hcount hnew hk ht hd
  -- the node lies in a variable of its own first
  have F0 : Fr [] w (w.alloc (.cells #[.bool true, .int .i64 (l : Int), .int .u32 (lo : Int), .int .u32 (hi : Int)] 220)) := (Fr.refl _ _).alloc _
  have hT0 := hT.fr F0 (by simp) (by simp) (by simp)
  have hM0 := hM.fr F0 (by simp)
  have d4 := F0.cell c4 (by simp)
  have d5 := F0.cell c5 (by simp)
  have hlt4 := lt_of_cell c4
  go_enter Tryz.func161, Tryz.ntmps161
  go_wp2_with fail
  refine (key_any l lo hi _ hl (by omega) (by omega)).mono ?_
  rintro e w1 ⟨rfl, rfl⟩
  go_wp2_with fail
  refine (finds_slot s tab tm tc K _ j slot _ HS.out d4 hT0 hdk hj Hz.out Hp.out).mono ?_
  rintro e w1 ⟨rfl, hT1, hF1⟩
  have hM1 := hM0.fr hF1 (by simp; omega)
  have e5 := hF1.cell d5 (by simp; omega)
  obtain ⟨w2, hrun, hM2, hF2⟩ := run_mapUpdate_int (P := Tryz.prog) Tryz.underlying131 (by kernel_rfl) hM1 (slot : Int) (.int .u32 ((m : Int) + 2))
  have hT2 := hT1.fr hF2 (by simp; omega) (by simp; omega) (by simp; omega)
  have hfin : ∃ K' sl', K'.length = K.length ∧ TableAt w2 tab tm tc K' ∧ MapAt w2 slo .i64 (slf sl') ∧ Bdd.TabInv (homeF K'.length) K' sl' L (m + 1) ∧ Fr [tm, tc, slo] w w2 := by
    refine ⟨_, (fun t => if t = slot then some (m + 2) else sl t), List.length_set, hT2, ?_, ?_, ((F0.of _).trans (hF1.mono (O' := [tm, tc, slo]) (by simp)) (by simp)).trans (hF2.mono (O' := [tm, tc, slo]) (by simp)) (by simp)⟩
    · rw [show ((m : Int) + 2) = ((m + 2 : Nat) : Int) from rfl, slf_set] at hM2; exact hM2
    · rw [List.length_set]; exact Hins.out
  clear hT1 hT2 hM1 hM2 hM0 hT0 hT hM
  go_wp2
  go_end0
  exact ⟨rfl, hfin⟩

end Go.Proofs.YtiojnjihbidbiaaGreat

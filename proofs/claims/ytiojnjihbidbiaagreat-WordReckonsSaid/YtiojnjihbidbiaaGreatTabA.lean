/- The tables of the statements' own package (spinneyref3), walked: evaluation, constants, variables, and the words of tables. -/
import Derived.Test.YtiojnjihbidbiaaGreatFun
import Derived.Test.YtiojnjihbidbiaaGreatBaseA
import Derived.Test.YtiojnjihbidbiaaGreatProg
import Derived.OpenShut
import Derived.Deep.LoopGhost
import Derived.Lib.Hide
import Derived.Deep.RegionHeld3
import Derived.Deep.QuietTactic
import Derived.BigQuiet
import Derived.StillTailTactics
import Derived.Deep.DrawnRows
import Derived.Laws.EntriesVeiled
import Derived.Laws.ResultCell
namespace Go.Proofs.YtiojnjihbidbiaaGreat
open Go.RowKit
attribute [local go_sem ↓] Go.wp_at_zero Go.wp_at_succ
set_option linter.unusedVariables false

/-- A function's table as a value. -/
abbrev tv (F : Fun) : Value := .agg #[.int .u64 (wd F 0 : Nat), .int .u64 (wd F 1 : Nat), .int .u64 (wd F 2 : Nat), .int .u64 (wd F 3 : Nat)]
/-- Its cells. -/
abbrev tcells (F : Fun) : Array Value := #[.int .u64 (wd F 0 : Nat), .int .u64 (wd F 1 : Nat), .int .u64 (wd F 2 : Nat), .int .u64 (wd F 3 : Nat)]
theorem tcells_get (F : Fun) {i : Nat} (hi : i < 4) : (tcells F)[i]? = some (.int .u64 (wd F i : Nat)) := by
  match i, hi with
  | 0, _ => rfl
  | 1, _ => rfl
  | 2, _ => rfl
  | 3, _ => rfl

theorem bit_u64 (a j : Nat) (ha : a < 18446744073709551616) : bits BinOp.and IntKind.u64 ((a : Int) / 2 ^ j) 1 = ((a.testBit j).toNat : Int) := by
  have e : (a : Int) / 2 ^ j = ((a / 2 ^ j : Nat) : Int) := by simp
  have h : a / 2 ^ j < 18446744073709551616 := Nat.lt_of_le_of_lt (Nat.div_le_self _ _) ha
  rw [e, show (1 : Int) = ((1 : Nat) : Int) from rfl, u64_and_nat _ _ h (by omega), Nat.and_one_is_mod, Nat.testBit_eq_decide_div_mod_eq]
  by_cases h2 : a / 2 ^ j % 2 = 1
  · rw [h2]; simp
  · have : a / 2 ^ j % 2 = 0 := by omega
    rw [this]; simp

theorem teval_any (F : Fun) (x : Nat) (w : World) (hx : x < 256) :
    Calls Tryz.prog 43 #[tv F, .int .u8 (x : Int)] w fun e w' => e = .returned (.bool (F (asg x))) ∧ Fr [] w w' := by
  have hB := Blk.new w (tcells F) 49
  have c := hB.cell (x / 64) (tcells_get F (by omega))
  clear hB
  go_enter Tryz.func43, Tryz.ntmps43
  go_wp2
  go_ret
  exact ⟨ret_bool (by rw [bit_u64 _ _ (wd_lt F _), wd_eval]; cases F (asg x) <;> rfl), (Fr.refl [] w).alloc _⟩

/-- A function with one value more at which it is true. -/
def orAt (G : Fun) (x : Nat) : Fun := fun y => G y || decide (pack y = x)
theorem wd_orAt_same (G : Fun) {x : Nat} (hx : x < 256) : wd G (x / 64) ||| 2 ^ (x % 64) = wd (orAt G x) (x / 64) :=
  wd_of (Nat.or_lt_two_pow (wd_lt G _) (Nat.pow_lt_pow_right (by omega) (Nat.mod_lt _ (by omega)))) fun j hj => by
    rw [Nat.testBit_or, wd_test G _ hj, testBit_two]
    unfold orAt
    rw [pack_asg (by omega)]
    congr 1
    exact decide_eq_decide.2 (by omega)
theorem wd_orAt_other (G : Fun) {x i : Nat} (hi : i < 4) (h : i ≠ x / 64) : wd (orAt G x) i = wd G i :=
  bitsN_congr fun j hj => by
    unfold orAt
    rw [pack_asg (by omega), decide_eq_false (by omega), Bool.or_false]
theorem tcells_set (G : Fun) {x : Nat} (hx : x < 256) : (tcells G).setIfInBounds (x / 64) (.int .u64 ((wd G (x / 64) ||| 2 ^ (x % 64) : Nat) : Int)) = tcells (orAt G x) := by
  rw [wd_orAt_same G hx]
  have h : x / 64 = 0 ∨ x / 64 = 1 ∨ x / 64 = 2 ∨ x / 64 = 3 := by omega
  unfold tcells
  rcases h with h | h | h | h
  all_goals rw [h]
  · rw [wd_orAt_other G (x := x) (i := 1) (by omega) (by omega), wd_orAt_other G (x := x) (i := 2) (by omega) (by omega), wd_orAt_other G (x := x) (i := 3) (by omega) (by omega)]; rfl
  · rw [wd_orAt_other G (x := x) (i := 0) (by omega) (by omega), wd_orAt_other G (x := x) (i := 2) (by omega) (by omega), wd_orAt_other G (x := x) (i := 3) (by omega) (by omega)]; rfl
  · rw [wd_orAt_other G (x := x) (i := 0) (by omega) (by omega), wd_orAt_other G (x := x) (i := 1) (by omega) (by omega), wd_orAt_other G (x := x) (i := 3) (by omega) (by omega)]; rfl
  · rw [wd_orAt_other G (x := x) (i := 0) (by omega) (by omega), wd_orAt_other G (x := x) (i := 1) (by omega) (by omega), wd_orAt_other G (x := x) (i := 2) (by omega) (by omega)]; rfl

theorem or_two64 (a k : Nat) (ha : a < 2 ^ 64) (hk : k < 64) : bits BinOp.or IntKind.u64 (a : Int) (IntKind.u64.wrap (2 ^ k)) = ((a ||| 2 ^ k : Nat) : Int) := by
  have h2 : (2 : Nat) ^ k < 18446744073709551616 := Nat.pow_lt_pow_right (n := 64) (by omega) hk
  have e : IntKind.u64.wrap (2 ^ k) = ((2 ^ k : Nat) : Int) := by
    rw [show IntKind.u64.wrap ((2 : Int) ^ k) = (2 : Int) ^ k % 18446744073709551616 from rfl, Int.natCast_pow]
    have h3 : ((2 : Nat) : Int) ^ k < 18446744073709551616 := by
      rw [← Int.natCast_pow]; exact Int.ofNat_lt.2 h2
    exact Int.emod_eq_of_lt (Int.pow_nonneg (by decide)) h3
  rw [e, u64_or_nat _ _ ha h2]

theorem tset_no (b : Nat) (x : Nat) (w : World) :
    Calls Tryz.prog 124 #[.pointer (some ⟨b, 0, none⟩), .int .u8 (x : Int), .bool false] w fun e w' => e = .returned (.tuple #[]) ∧ w = w' := by
  go_enter Tryz.func124, Tryz.ntmps124
  go_wp2
  go_end0
  exact ⟨rfl, rfl⟩

theorem tset_yes (b : Nat) (G : Fun) (x : Nat) (w : World) (hx : x < 256) (hB : Blk w b (tcells G) 49) :
    Calls Tryz.prog 124 #[.pointer (some ⟨b, 0, none⟩), .int .u8 (x : Int), .bool true] w fun e w' => e = .returned (.tuple #[]) ∧ Blk w' b (tcells (orAt G x)) 49 ∧ Fr [b] w w' := by
  have c := hB.cell (x / 64) (tcells_get G (by omega))
  have f := hB.free (x / 64)
  have HB := Lib.hid hB
  clear hB
  go_enter Tryz.func124, Tryz.ntmps124
  go_wp2_with fail
  go_region
  all_goals
    go_wp2
    go_end0
    refine ⟨rfl, ?_, ((Fr.refl [b] w).setCell _ (.inl (by simp))).drew⟩
    rw [or_two64 _ _ (wd_lt G _) (Nat.mod_lt _ (by omega))]
    have := HB.out.set (x / 64) (.int .u64 ((wd G (x / 64) ||| 2 ^ (x % 64) : Nat) : Int))
    rw [tcells_set G hx] at this
    exact this.drew

/-- What is known of a function's table below k. -/
def part (F : Fun) (k : Nat) : Fun := fun y => F y && decide (pack y < k)
theorem tcells_congr {F G : Fun} (h : ∀ x, x < 256 → F (asg x) = G (asg x)) : tcells F = tcells G := by
  unfold tcells
  rw [wd_congr h (i := 0) (by omega), wd_congr h (i := 1) (by omega), wd_congr h (i := 2) (by omega), wd_congr h (i := 3) (by omega)]
theorem tcells_false : tcells (fun _ => false) = #[.int .u64 0, .int .u64 0, .int .u64 0, .int .u64 0] := by
  unfold tcells; rw [wd_zero, wd_zero, wd_zero, wd_zero]; rfl
theorem part_zero (F : Fun) : tcells (part F 0) = #[.int .u64 0, .int .u64 0, .int .u64 0, .int .u64 0] := by
  rw [← tcells_false]; exact tcells_congr fun x _ => by simp [part]
theorem part_all (F : Fun) : tcells (part F 256) = tcells F := tcells_congr fun x hx => by
  unfold part; rw [pack_asg hx, decide_eq_true hx, Bool.and_true]

theorem tset_part (b : Nat) (F : Fun) (x : Nat) (v : Bool) (w : World) (hx : x < 256) (hv : F (asg x) = v) (hB : Blk w b (tcells (part F x)) 49) :
    Calls Tryz.prog 124 #[.pointer (some ⟨b, 0, none⟩), .int .u8 (x : Int), .bool v] w fun e w' => e = .returned (.tuple #[]) ∧ Blk w' b (tcells (part F (x + 1))) 49 ∧ Fr [b] w w' := by
  cases v
  · refine (tset_no b x w).mono ?_
    rintro e w' ⟨rfl, rfl⟩
    refine ⟨rfl, ?_, Fr.refl _ _⟩
    rw [show tcells (part F (x + 1)) = tcells (part F x) from tcells_congr fun z hz => ?_]
    · exact hB
    · unfold part
      rw [pack_asg hz]
      by_cases e : z = x
      · subst e; rw [hv]; rfl
      · congr 1; exact decide_eq_decide.2 (by omega)
  · refine (tset_yes b _ x w hx hB).mono ?_
    rintro e w' ⟨rfl, h, f⟩
    refine ⟨rfl, ?_, f⟩
    rw [show tcells (part F (x + 1)) = tcells (orAt (part F x) x) from tcells_congr fun z hz => ?_]
    · exact h
    · show (F (asg z) && decide (pack (asg z) < x + 1)) = ((F (asg z) && decide (pack (asg z) < x)) || decide (pack (asg z) = x))
      rw [pack_asg hz]
      by_cases e : z = x
      · subst e; rw [hv]; simp
      · rw [decide_eq_false e, Bool.or_false]; congr 1; exact decide_eq_decide.2 (by omega)

/-- A result that lies in a block of four cells. -/
theorem results_table {fn : Func} {p : Tmp} (h : fn.results = #[.cell p 49]) {tmps : Array Value} {w : World} {r : Nat} (hp : tmps.getD p undef = .pointer (some ⟨r, 0, none⟩)) {F : Fun} (hB : Blk w r (tcells F) 49) :
    (results fn tmps).run Tryz.prog w = .ok (tv F) w := by
  have c0 := hB.cell 0 (v := .int .u64 (wd F 0 : Nat)) rfl
  have c1 := hB.cell 1 (v := .int .u64 (wd F 1 : Nat)) rfl
  have c2 := hB.cell 2 (v := .int .u64 (wd F 2 : Nat)) rfl
  have c3 := hB.cell 3 (v := .int .u64 (wd F 3 : Nat)) rfl
  have hp' : tmps[p]?.getD undef = .pointer (some ⟨r, 0, none⟩) := by simpa using hp
  clear hB hp
  simp [results, h, hp', go_sem, c0, c1, c2, c3]

theorem Blk.four {w : World} {r : Nat} {cs : Array Value} {t : TypeId} {F : Fun} (h : Blk w r cs t) (hs : cs.size = 4) :
    Blk ((((w.setCell ⟨r, 0, none⟩ (.int .u64 (wd F 0 : Nat))).setCell ⟨r, 1, none⟩ (.int .u64 (wd F 1 : Nat))).setCell ⟨r, 2, none⟩ (.int .u64 (wd F 2 : Nat))).setCell ⟨r, 3, none⟩ (.int .u64 (wd F 3 : Nat))) r (tcells F) t := by
  have := (((h.set 0 (.int .u64 (wd F 0 : Nat))).set 1 (.int .u64 (wd F 1 : Nat))).set 2 (.int .u64 (wd F 2 : Nat))).set 3 (.int .u64 (wd F 3 : Nat))
  match cs, hs, this with
  | ⟨[a, b, c, d]⟩, _, this => exact this

/-- A table that is being filled beside the result's block. -/
structure Fill (F : Fun) (w : World) (r b k : Nat) (wr : World) : Prop where
  res : Blk wr r #[.int .u64 0, .int .u64 0, .int .u64 0, .int .u64 0] 49
  tab : Blk wr b (tcells (part F k)) 49
  fr : Fr [] w wr
  le : w.heap.size ≤ r ∧ r < b

theorem Fill.start (F : Fun) (w : World) : Fill F w w.heap.size (w.heap.size + 1) 0 ((w.alloc (.cells #[.int .u64 0, .int .u64 0, .int .u64 0, .int .u64 0] 49)).alloc (.cells #[.int .u64 0, .int .u64 0, .int .u64 0, .int .u64 0] 49)) := by
  refine ⟨(Blk.new w _ _).alloc _, ?_, ((Fr.refl [] w).alloc _).alloc _, Nat.le_refl _, Nat.lt_succ_self _⟩
  rw [part_zero]
  have := Blk.new (w.alloc (.cells #[.int .u64 0, .int .u64 0, .int .u64 0, .int .u64 0] 49)) #[.int .u64 0, .int .u64 0, .int .u64 0, .int .u64 0] 49
  rw [World.size_alloc] at this; exact this
theorem Fill.step {F : Fun} {w wr w' : World} {r b k : Nat} (h : Fill F w r b k wr) (hB : Blk w' b (tcells (part F (k + 1))) 49) (f : Fr [b] wr w') : Fill F w r b (k + 1) w' :=
  ⟨h.res.fr f (by simp; have := h.le; omega), hB, h.fr.trans f (fun x hx => by simp only [List.mem_singleton] at hx; subst hx; have := h.le; exact .inr (by omega)), h.le⟩

set_option maxHeartbeats 1000000 in
set_option maxRecDepth 4000 in
theorem tconst_any (v : Bool) (w : World) :
    Calls Tryz.prog 121 #[.bool v] w fun e w' => e = .returned (tv fun _ => v) ∧ Fr [] w w' := by
  have R0 := Lib.hid (Fill.start (fun _ => v) w)
  go_enter Tryz.func121, Tryz.ntmps121
  go_wp2_with fail
  go_loopg [4] 256 (fun k i wr => ∃ j : Nat, j ≤ 256 ∧ k = 256 - j ∧ i = .int .i64 (j : Int) ∧ Fill (fun _ => v) w w.heap.size (w.heap.size + 1) j wr)
  case atStart => exact ⟨0, by omega, by omega, rfl, R0.out⟩
  case round =>
    obtain ⟨j, hj, hk, rfl, hr⟩ := hrel
    by_cases hlt : j < 256
    · have hw : IntKind.u8.wrap (j : Int) = (j : Int) := by rw [show IntKind.u8.wrap (j : Int) = (j : Int) % 256 from rfl]; omega
      have HR := Lib.hid hr
      clear hr
      go_wp2_with fail
      refine (tset_part (w.heap.size + 1) (fun _ => v) j v _ hlt rfl (by exact HR.out.tab)).mono ?_
      rintro e w1 ⟨rfl, hB, hF⟩
      have nx := Lib.hid (HR.out.step hB hF)
      clear hB hF
      go_wp2
      go_roundg (256 - (j + 1))
      case measure => omega
      case rel => exact ⟨j + 1, by omega, rfl, by go_num, nx.out⟩
    · have e : j = 256 := by omega
      subst e
      have hT := hr.tab
      rw [part_all] at hT
      have c0 := hT.cell 0 (v := .int .u64 (wd (fun _ => v) 0 : Nat)) rfl
      have c1 := hT.cell 1 (v := .int .u64 (wd (fun _ => v) 1 : Nat)) rfl
      have c2 := hT.cell 2 (v := .int .u64 (wd (fun _ => v) 2 : Nat)) rfl
      have c3 := hT.cell 3 (v := .int .u64 (wd (fun _ => v) 3 : Nat)) rfl
      have f0 := hr.res.free 0
      have f1 := hr.res.free 1
      have f2 := hr.res.free 2
      have f3 := hr.res.free 3
      have d0 := hr.res.cell 0 (v := .int .u64 0) rfl
      have d1 := hr.res.cell 1 (v := .int .u64 0) rfl
      have d2 := hr.res.cell 2 (v := .int .u64 0) rfl
      have d3 := hr.res.cell 3 (v := .int .u64 0) rfl
      have HR := Lib.hid hr
      clear hr hT
      go_wp2
      refine bodyPost_ret (results_table rfl rfl (HR.out.res.four rfl)) rfl ⟨rfl, ?_⟩
      exact (((HR.out.fr.setCell _ (.inr (Nat.le_refl _))).setCell _ (.inr (Nat.le_refl _))).setCell _ (.inr (Nat.le_refl _))).setCell _ (.inr (Nat.le_refl _))
theorem i64_and_nat (a b : Nat) (ha : a < 9223372036854775808) (hb : b < 9223372036854775808) : bits BinOp.and IntKind.i64 (a : Int) (b : Int) = ((a &&& b : Nat) : Int) := by
  have hx : a &&& b < 2 ^ 63 := Nat.and_lt_two_pow _ (by omega)
  show IntKind.i64.wrap ((BitVec.ofInt 64 (a : Int) &&& BitVec.ofInt 64 (b : Int)).toNat : Int) = _
  rw [BitVec.toNat_and, ofInt_u64 a (by omega), ofInt_u64 b (by omega), IntKind.wrap_i64]
  omega
theorem i64_or_nat (a b : Nat) (ha : a < 9223372036854775808) (hb : b < 9223372036854775808) : bits BinOp.or IntKind.i64 (a : Int) (b : Int) = ((a ||| b : Nat) : Int) := by
  have hx : a ||| b < 2 ^ 63 := Nat.or_lt_two_pow (by omega) (by omega)
  show IntKind.i64.wrap ((BitVec.ofInt 64 (a : Int) ||| BitVec.ofInt 64 (b : Int)).toNat : Int) = _
  rw [BitVec.toNat_or, ofInt_u64 a (by omega), ofInt_u64 b (by omega), IntKind.wrap_i64]
  omega
theorem bit_i64 (a j : Nat) (ha : a < 256) : bits BinOp.and IntKind.i64 ((a : Int) / 2 ^ j) 1 = ((a.testBit j).toNat : Int) := by
  have e : (a : Int) / 2 ^ j = ((a / 2 ^ j : Nat) : Int) := by simp
  have h : a / 2 ^ j < 256 := Nat.lt_of_le_of_lt (Nat.div_le_self _ _) ha
  rw [e]
  have := i64_and_nat (a / 2 ^ j) 1 (by omega) (by omega)
  rw [show (1 : Int) = ((1 : Nat) : Int) from rfl, this, Nat.and_one_is_mod, Nat.testBit_eq_decide_div_mod_eq]
  by_cases h2 : a / 2 ^ j % 2 = 1
  · rw [h2]; simp
  · have : a / 2 ^ j % 2 = 0 := by omega
    rw [this]; simp

set_option maxHeartbeats 1000000 in
set_option maxRecDepth 4000 in
theorem tvar_any (v : Nat) (w : World) (hv : v < 8) :
    Calls Tryz.prog 112 #[.int .i64 (v : Int)] w fun e w' => e = .returned (tv fun y => y v) ∧ Fr [] w w' := by
  have R0 := Lib.hid (Fill.start (fun y => y v) w)
  have hcv : IntKind.u64.wrap (v : Int) = (v : Int) := by rw [show IntKind.u64.wrap (v : Int) = (v : Int) % 18446744073709551616 from rfl]; omega
  have HCV := Lib.hid hcv
  clear hcv
  go_enter Tryz.func112, Tryz.ntmps112
  go_wp2_with fail
  go_loopg [4] 256 (fun k i wr => ∃ j : Nat, j ≤ 256 ∧ k = 256 - j ∧ i = .int .i64 (j : Int) ∧ Fill (fun y => y v) w w.heap.size (w.heap.size + 1) j wr)
  case atStart => exact ⟨0, by omega, by omega, rfl, R0.out⟩
  case round =>
    obtain ⟨j, hj, hk, rfl, hr⟩ := hrel
    by_cases hlt : j < 256
    · have hw : IntKind.u8.wrap (j : Int) = (j : Int) := by rw [show IntKind.u8.wrap (j : Int) = (j : Int) % 256 from rfl]; omega
      have hb := bit_i64 j v hlt
      have ht : (((j.testBit v).toNat : Int) == 1) = j.testBit v := by cases j.testBit v <;> rfl
      have HR := Lib.hid hr
      clear hr
      go_wp2_with fail
      refine (tset_part (w.heap.size + 1) (fun y => y v) j (j.testBit v) _ hlt rfl (by exact HR.out.tab)).mono ?_
      rintro e w1 ⟨rfl, hB, hF⟩
      have nx := Lib.hid (HR.out.step hB hF)
      clear hB hF
      go_wp2
      go_roundg (256 - (j + 1))
      case measure => omega
      case rel => exact ⟨j + 1, by omega, rfl, by go_num, nx.out⟩
    · have e : j = 256 := by omega
      subst e
      have hT := hr.tab
      rw [part_all] at hT
      have c0 := hT.cell 0 (v := .int .u64 (wd (fun y => y v) 0 : Nat)) rfl
      have c1 := hT.cell 1 (v := .int .u64 (wd (fun y => y v) 1 : Nat)) rfl
      have c2 := hT.cell 2 (v := .int .u64 (wd (fun y => y v) 2 : Nat)) rfl
      have c3 := hT.cell 3 (v := .int .u64 (wd (fun y => y v) 3 : Nat)) rfl
      have f0 := hr.res.free 0
      have f1 := hr.res.free 1
      have f2 := hr.res.free 2
      have f3 := hr.res.free 3
      have d0 := hr.res.cell 0 (v := .int .u64 0) rfl
      have d1 := hr.res.cell 1 (v := .int .u64 0) rfl
      have d2 := hr.res.cell 2 (v := .int .u64 0) rfl
      have d3 := hr.res.cell 3 (v := .int .u64 0) rfl
      have HR := Lib.hid hr
      clear hr hT
      go_wp2
      refine bodyPost_ret (results_table rfl rfl (HR.out.res.four rfl)) rfl ⟨rfl, ?_⟩
      exact (((HR.out.fr.setCell _ (.inr (Nat.le_refl _))).setCell _ (.inr (Nat.le_refl _))).setCell _ (.inr (Nat.le_refl _))).setCell _ (.inr (Nat.le_refl _))

/-! Word by word. -/
/-- The first j words are H's, the others F's. -/
def mixW (H F : Fun) (j : Nat) : Fun := fun y => if pack y / 64 < j then H y else F y
theorem wd_mix_lt (H F : Fun) {i j : Nat} (hi : i < 4) (h : i < j) : wd (mixW H F j) i = wd H i := bitsN_congr fun k hk => by
  unfold mixW; rw [pack_asg (by omega), if_pos (by omega)]
theorem wd_mix_ge (H F : Fun) {i j : Nat} (hi : i < 4) (h : j ≤ i) : wd (mixW H F j) i = wd F i := bitsN_congr fun k hk => by
  unfold mixW; rw [pack_asg (by omega), if_neg (by omega)]
theorem mix_zero (H F : Fun) : tcells (mixW H F 0) = tcells F := tcells_congr fun x _ => by unfold mixW; rw [if_neg (by omega)]
theorem mix_all (H F : Fun) : tcells (mixW H F 4) = tcells H := tcells_congr fun x hx => by unfold mixW; rw [pack_asg hx, if_pos (by omega)]
theorem mix_set (H F : Fun) {j : Nat} (hj : j < 4) : (tcells (mixW H F j)).setIfInBounds j (.int .u64 (wd H j : Nat)) = tcells (mixW H F (j + 1)) := by
  have lt : ∀ i, i < 4 → i ≠ j → wd (mixW H F (j + 1)) i = wd (mixW H F j) i := fun i hi hn => by
    rcases Nat.lt_or_ge i j with h | h
    · rw [wd_mix_lt H F hi h, wd_mix_lt H F hi (by omega)]
    · rw [wd_mix_ge H F hi h, wd_mix_ge H F hi (by omega)]
  have eq := wd_mix_lt H F hj (Nat.lt_succ_self j)
  have k0 : ∀ a b c d x : Value, (#[a, b, c, d] : Array Value).setIfInBounds 0 x = #[x, b, c, d] := fun _ _ _ _ _ => rfl
  have k1 : ∀ a b c d x : Value, (#[a, b, c, d] : Array Value).setIfInBounds 1 x = #[a, x, c, d] := fun _ _ _ _ _ => rfl
  have k2 : ∀ a b c d x : Value, (#[a, b, c, d] : Array Value).setIfInBounds 2 x = #[a, b, x, d] := fun _ _ _ _ _ => rfl
  have k3 : ∀ a b c d x : Value, (#[a, b, c, d] : Array Value).setIfInBounds 3 x = #[a, b, c, x] := fun _ _ _ _ _ => rfl
  unfold tcells
  have hj4 : j = 0 ∨ j = 1 ∨ j = 2 ∨ j = 3 := by omega
  rcases hj4 with rfl | rfl | rfl | rfl
  · rw [k0, eq, lt 1 (by omega) (by omega), lt 2 (by omega) (by omega), lt 3 (by omega) (by omega)]
  · rw [k1, eq, lt 0 (by omega) (by omega), lt 2 (by omega) (by omega), lt 3 (by omega) (by omega)]
  · rw [k2, eq, lt 0 (by omega) (by omega), lt 1 (by omega) (by omega), lt 3 (by omega) (by omega)]
  · rw [k3, eq, lt 0 (by omega) (by omega), lt 1 (by omega) (by omega), lt 2 (by omega) (by omega)]

/-- A table turned word by word beside the result's block. -/
structure Turn (H F : Fun) (w : World) (r b j : Nat) (wr : World) : Prop where
  res : Blk wr r #[.int .u64 0, .int .u64 0, .int .u64 0, .int .u64 0] 49
  tab : Blk wr b (tcells (mixW H F j)) 49
  fr : Fr [] w wr
  le : w.heap.size ≤ r ∧ w.heap.size ≤ b ∧ r ≠ b

theorem Turn.step {H F : Fun} {w wr : World} {r b j : Nat} (h : Turn H F w r b j wr) (hj : j < 4) : Turn H F w r b (j + 1) (wr.setCell ⟨b, j, none⟩ (.int .u64 (wd H j : Nat))) := by
  refine ⟨h.res.other _ h.le.2.2, ?_, h.fr.setCell _ (.inr h.le.2.1), h.le⟩
  rw [← mix_set H F hj]; exact h.tab.set _ _
theorem Turn.cell {H F : Fun} {w wr : World} {r b j : Nat} (h : Turn H F w r b j wr) (hj : j < 4) : wr.cell? ⟨b, j, none⟩ = some (.int .u64 (wd F j : Nat)) := by
  rw [← wd_mix_ge H F hj (Nat.le_refl j)]; exact h.tab.cell j (tcells_get _ hj)
theorem Turn.drew {H F : Fun} {w wr : World} {r b j : Nat} (h : Turn H F w r b j wr) : Turn H F w r b j wr.drew := ⟨h.res, h.tab, h.fr.drew, h.le⟩

theorem not_word (F : Fun) (i : Nat) : bits BinOp.xor IntKind.u64 IntKind.u64.max ((wd F i : Nat) : Int) = ((wd (fun y => !(F y)) i : Nat) : Int) := by
  rw [show IntKind.u64.max = ((18446744073709551615 : Nat) : Int) by decide, u64_xor_nat _ _ (by omega) (wd_lt F i)]
  refine congrArg (fun n : Nat => (n : Int)) ?_
  refine wd_of (Nat.xor_lt_two_pow (by omega) (wd_lt F i)) fun j hj => ?_
  rw [Nat.testBit_xor, wd_test F i hj, show (18446744073709551615 : Nat) = 2 ^ 64 - 1 from rfl, Nat.testBit_two_pow_sub_one, decide_eq_true hj, Bool.true_xor]
theorem u64_unsigned : IntKind.u64.signed = false := rfl

set_option maxHeartbeats 1000000 in
set_option maxRecDepth 4000 in
theorem tnot_any (F : Fun) (w : World) :
    Calls Tryz.prog 111 #[tv F] w fun e w' => e = .returned (tv fun y => !(F y)) ∧ Fr [] w w' := by
  have h0 : Turn (fun y => !(F y)) F w (w.heap.size + 1) w.heap.size 0 ((w.alloc (.cells (tcells F) 49)).alloc (.cells #[.int .u64 0, .int .u64 0, .int .u64 0, .int .u64 0] 49)) := by
    refine ⟨?_, by rw [mix_zero]; exact (Blk.new w _ _).alloc _, ((Fr.refl [] w).alloc _).alloc _, by omega, Nat.le_refl _, by omega⟩
    have := Blk.new (w.alloc (.cells (tcells F) 49)) #[.int .u64 0, .int .u64 0, .int .u64 0, .int .u64 0] 49
    rw [World.size_alloc] at this; exact this
  have R0 := Lib.hid h0
  have hu := u64_unsigned
  clear h0
  go_enter Tryz.func111, Tryz.ntmps111
  go_wp2_with fail
  go_loopg [3] 4 (fun k i wr => ∃ j : Nat, j ≤ 4 ∧ k = 4 - j ∧ i = .int .i64 (j : Int) ∧ Turn (fun y => !(F y)) F w (w.heap.size + 1) w.heap.size j wr)
  case atStart => exact ⟨0, by omega, by omega, rfl, R0.out⟩
  case round =>
    obtain ⟨j, hj, hk, rfl, hr⟩ := hrel
    by_cases hlt : j < 4
    · have c := hr.cell hlt
      have f := hr.tab.free j
      have HR := Lib.hid hr
      clear hr
      go_wp2
      rw [not_word]
      go_roundg (4 - (j + 1))
      case measure => omega
      case rel => exact ⟨j + 1, by omega, rfl, by go_num, HR.out.step hlt⟩
    · have e : j = 4 := by omega
      subst e
      have hT := hr.tab
      rw [mix_all] at hT
      have c0 := hT.cell 0 (v := .int .u64 (wd (fun y => !(F y)) 0 : Nat)) rfl
      have c1 := hT.cell 1 (v := .int .u64 (wd (fun y => !(F y)) 1 : Nat)) rfl
      have c2 := hT.cell 2 (v := .int .u64 (wd (fun y => !(F y)) 2 : Nat)) rfl
      have c3 := hT.cell 3 (v := .int .u64 (wd (fun y => !(F y)) 3 : Nat)) rfl
      have f0 := hr.res.free 0
      have f1 := hr.res.free 1
      have f2 := hr.res.free 2
      have f3 := hr.res.free 3
      have d0 := hr.res.cell 0 (v := .int .u64 0) rfl
      have d1 := hr.res.cell 1 (v := .int .u64 0) rfl
      have d2 := hr.res.cell 2 (v := .int .u64 0) rfl
      have d3 := hr.res.cell 3 (v := .int .u64 0) rfl
      have HR := Lib.hid hr
      clear hr hT
      go_wp2
      refine bodyPost_ret (results_table rfl rfl (HR.out.res.four rfl)) rfl ⟨rfl, ?_⟩
      exact (((HR.out.fr.setCell _ (.inr HR.out.le.1)).setCell _ (.inr HR.out.le.1)).setCell _ (.inr HR.out.le.1)).setCell _ (.inr HR.out.le.1)
end Go.Proofs.YtiojnjihbidbiaaGreat

/- The statements' tables, walked: a variable set; trimmed; restricted. -/
import Derived.Test.YtiojnjihbidbiaaGreatTabC
namespace Go.Proofs.YtiojnjihbidbiaaGreat
open Go.RowKit
attribute [local go_sem ↓] Go.wp_at_zero Go.wp_at_succ
set_option linter.unusedVariables false

theorem fixc_6_true (F : Fun) : tcells (fixF F 6 true) = #[.int .u64 (wd F 1 : Nat), .int .u64 (wd F 1 : Nat), .int .u64 (wd F 3 : Nat), .int .u64 (wd F 3 : Nat)] := by
  unfold tcells
  rw [wd_fix_high F 0 true (by omega), wd_fix_high F 1 true (by omega), wd_fix_high F 2 true (by omega), wd_fix_high F 3 true (by omega)]
  rfl
set_option maxHeartbeats 4000000 in
set_option maxRecDepth 8000 in
theorem tfix_6_true (F : Fun) (w : World) :
    Calls Tryz.prog 107 #[tv F, .int .i64 6, .bool true] w fun e w' => e = .returned (tv (fixF F 6 true)) ∧ Fr [] w w' := by
  have a0 : bits BinOp.and IntKind.i64 0 1 = 0 := by decide
  have a1 : bits BinOp.and IntKind.i64 1 1 = 1 := by decide
  have a2 : bits BinOp.and IntKind.i64 2 1 = 0 := by decide
  have a3 : bits BinOp.and IntKind.i64 3 1 = 1 := by decide
  have o0 : bits BinOp.or IntKind.i64 0 1 = 1 := by decide
  have o2 : bits BinOp.or IntKind.i64 2 1 = 3 := by decide
  go_enter Tryz.func107, Tryz.ntmps107
  go_wp2_with fail
  refine wp_loop_rounds 5 ?_
  rw [rounds_succ]
  go_wp2
  rw [rounds_succ]
  go_wp2
  rw [rounds_succ]
  go_wp2
  rw [rounds_succ]
  go_wp2
  rw [rounds_succ]
  go_wp2
  refine bodyPost_ret (results_table (F := fixF F 6 true) (r := w.heap.size + 1) rfl rfl ?_) rfl ⟨rfl, ((Fr.refl [] w).alloc _).alloc _⟩
  rw [fixc_6_true]
  have := Blk.new (w.alloc (.cells #[.int .u64 (wd F 1 : Nat), .int .u64 (wd F 1 : Nat), .int .u64 (wd F 3 : Nat), .int .u64 (wd F 3 : Nat)] 49)) #[.int .u64 (wd F 1 : Nat), .int .u64 (wd F 1 : Nat), .int .u64 (wd F 3 : Nat), .int .u64 (wd F 3 : Nat)] 49
  rw [World.size_alloc] at this
  exact this

theorem fixc_6_false (F : Fun) : tcells (fixF F 6 false) = #[.int .u64 (wd F 0 : Nat), .int .u64 (wd F 0 : Nat), .int .u64 (wd F 2 : Nat), .int .u64 (wd F 2 : Nat)] := by
  unfold tcells
  rw [wd_fix_high F 0 false (by omega), wd_fix_high F 1 false (by omega), wd_fix_high F 2 false (by omega), wd_fix_high F 3 false (by omega)]
  rfl
set_option maxHeartbeats 4000000 in
set_option maxRecDepth 8000 in
theorem tfix_6_false (F : Fun) (w : World) :
    Calls Tryz.prog 107 #[tv F, .int .i64 6, .bool false] w fun e w' => e = .returned (tv (fixF F 6 false)) ∧ Fr [] w w' := by
  have a0 : bits BinOp.and IntKind.i64 0 1 = 0 := by decide
  have a1 : bits BinOp.and IntKind.i64 1 1 = 1 := by decide
  have a2 : bits BinOp.and IntKind.i64 2 1 = 0 := by decide
  have a3 : bits BinOp.and IntKind.i64 3 1 = 1 := by decide
  have o0 : bits BinOp.or IntKind.i64 0 1 = 1 := by decide
  have o2 : bits BinOp.or IntKind.i64 2 1 = 3 := by decide
  go_enter Tryz.func107, Tryz.ntmps107
  go_wp2_with fail
  refine wp_loop_rounds 5 ?_
  rw [rounds_succ]
  go_wp2
  rw [rounds_succ]
  go_wp2
  rw [rounds_succ]
  go_wp2
  rw [rounds_succ]
  go_wp2
  rw [rounds_succ]
  go_wp2
  refine bodyPost_ret (results_table (F := fixF F 6 false) (r := w.heap.size + 1) rfl rfl ?_) rfl ⟨rfl, ((Fr.refl [] w).alloc _).alloc _⟩
  rw [fixc_6_false]
  have := Blk.new (w.alloc (.cells #[.int .u64 (wd F 0 : Nat), .int .u64 (wd F 0 : Nat), .int .u64 (wd F 2 : Nat), .int .u64 (wd F 2 : Nat)] 49)) #[.int .u64 (wd F 0 : Nat), .int .u64 (wd F 0 : Nat), .int .u64 (wd F 2 : Nat), .int .u64 (wd F 2 : Nat)] 49
  rw [World.size_alloc] at this
  exact this

theorem fixc_7_true (F : Fun) : tcells (fixF F 7 true) = #[.int .u64 (wd F 2 : Nat), .int .u64 (wd F 3 : Nat), .int .u64 (wd F 2 : Nat), .int .u64 (wd F 3 : Nat)] := by
  unfold tcells
  rw [wd_fix_high F 0 true (by omega), wd_fix_high F 1 true (by omega), wd_fix_high F 2 true (by omega), wd_fix_high F 3 true (by omega)]
  rfl
set_option maxHeartbeats 4000000 in
set_option maxRecDepth 8000 in
theorem tfix_7_true (F : Fun) (w : World) :
    Calls Tryz.prog 107 #[tv F, .int .i64 7, .bool true] w fun e w' => e = .returned (tv (fixF F 7 true)) ∧ Fr [] w w' := by
  have a0 : bits BinOp.and IntKind.i64 0 2 = 0 := by decide
  have a1 : bits BinOp.and IntKind.i64 1 2 = 0 := by decide
  have a2 : bits BinOp.and IntKind.i64 2 2 = 2 := by decide
  have a3 : bits BinOp.and IntKind.i64 3 2 = 2 := by decide
  have o0 : bits BinOp.or IntKind.i64 0 2 = 2 := by decide
  have o1 : bits BinOp.or IntKind.i64 1 2 = 3 := by decide
  go_enter Tryz.func107, Tryz.ntmps107
  go_wp2_with fail
  refine wp_loop_rounds 5 ?_
  rw [rounds_succ]
  go_wp2
  rw [rounds_succ]
  go_wp2
  rw [rounds_succ]
  go_wp2
  rw [rounds_succ]
  go_wp2
  rw [rounds_succ]
  go_wp2
  refine bodyPost_ret (results_table (F := fixF F 7 true) (r := w.heap.size + 1) rfl rfl ?_) rfl ⟨rfl, ((Fr.refl [] w).alloc _).alloc _⟩
  rw [fixc_7_true]
  have := Blk.new (w.alloc (.cells #[.int .u64 (wd F 2 : Nat), .int .u64 (wd F 3 : Nat), .int .u64 (wd F 2 : Nat), .int .u64 (wd F 3 : Nat)] 49)) #[.int .u64 (wd F 2 : Nat), .int .u64 (wd F 3 : Nat), .int .u64 (wd F 2 : Nat), .int .u64 (wd F 3 : Nat)] 49
  rw [World.size_alloc] at this
  exact this

theorem fixc_7_false (F : Fun) : tcells (fixF F 7 false) = #[.int .u64 (wd F 0 : Nat), .int .u64 (wd F 1 : Nat), .int .u64 (wd F 0 : Nat), .int .u64 (wd F 1 : Nat)] := by
  unfold tcells
  rw [wd_fix_high F 0 false (by omega), wd_fix_high F 1 false (by omega), wd_fix_high F 2 false (by omega), wd_fix_high F 3 false (by omega)]
  rfl
set_option maxHeartbeats 4000000 in
set_option maxRecDepth 8000 in
theorem tfix_7_false (F : Fun) (w : World) :
    Calls Tryz.prog 107 #[tv F, .int .i64 7, .bool false] w fun e w' => e = .returned (tv (fixF F 7 false)) ∧ Fr [] w w' := by
  have a0 : bits BinOp.and IntKind.i64 0 2 = 0 := by decide
  have a1 : bits BinOp.and IntKind.i64 1 2 = 0 := by decide
  have a2 : bits BinOp.and IntKind.i64 2 2 = 2 := by decide
  have a3 : bits BinOp.and IntKind.i64 3 2 = 2 := by decide
  have o0 : bits BinOp.or IntKind.i64 0 2 = 2 := by decide
  have o1 : bits BinOp.or IntKind.i64 1 2 = 3 := by decide
  go_enter Tryz.func107, Tryz.ntmps107
  go_wp2_with fail
  refine wp_loop_rounds 5 ?_
  rw [rounds_succ]
  go_wp2
  rw [rounds_succ]
  go_wp2
  rw [rounds_succ]
  go_wp2
  rw [rounds_succ]
  go_wp2
  rw [rounds_succ]
  go_wp2
  refine bodyPost_ret (results_table (F := fixF F 7 false) (r := w.heap.size + 1) rfl rfl ?_) rfl ⟨rfl, ((Fr.refl [] w).alloc _).alloc _⟩
  rw [fixc_7_false]
  have := Blk.new (w.alloc (.cells #[.int .u64 (wd F 0 : Nat), .int .u64 (wd F 1 : Nat), .int .u64 (wd F 0 : Nat), .int .u64 (wd F 1 : Nat)] 49)) #[.int .u64 (wd F 0 : Nat), .int .u64 (wd F 1 : Nat), .int .u64 (wd F 0 : Nat), .int .u64 (wd F 1 : Nat)] 49
  rw [World.size_alloc] at this
  exact this

theorem tfix_any (F : Fun) (v : Nat) (b : Bool) (w : World) (hv : v < 8) :
    Calls Tryz.prog 107 #[tv F, .int .i64 (v : Int), .bool b] w fun e w' => e = .returned (tv (fixF F v b)) ∧ Fr [] w w' := by
  by_cases h : v < 6
  · cases b
    · exact tfix_low_false F v w h
    · exact tfix_low_true F v w h
  · have : v = 6 ∨ v = 7 := by omega
    rcases this with rfl | rfl
    · cases b
      · exact tfix_6_false F w
      · exact tfix_6_true F w
    · cases b
      · exact tfix_7_false F w
      · exact tfix_7_true F w

/-- The variables from n on, k of them, set to 0. -/
def trimF (F : Fun) (n : Nat) : Nat → Fun
  | 0 => F
  | k + 1 => fixF (trimF F n k) (n + k) false
theorem trimF_eq (F : Fun) (n : Nat) : ∀ (k : Nat) y, trimF F n k y = F (fun v => if n ≤ v ∧ v < n + k then false else y v)
  | 0, y => by
    show F y = _
    congr 1; funext v; rw [if_neg (by omega)]
  | k + 1, y => by
    show trimF F n k (Bdd.upd y (n + k) false) = _
    rw [trimF_eq F n k]
    congr 1; funext v
    unfold Bdd.upd
    by_cases e : v = n + k
    · subst e; simp
    · by_cases h : n ≤ v ∧ v < n + k
      · rw [if_pos h, if_pos (by omega)]
      · rw [if_neg h, if_neg e, if_neg (by omega)]
theorem trimF_dep {F : Fun} {n : Nat} (h : Dep 8 F) (hn : n ≤ 8) : Dep n (trimF F n (8 - n)) := fun y z hy => by
  rw [trimF_eq, trimF_eq]
  refine h _ _ fun v hv => ?_
  by_cases hl : v < n
  · show (if _ then _ else _) = (if _ then _ else _)
    rw [if_neg (by omega), if_neg (by omega), hy v hl]
  · show (if _ then _ else _) = (if _ then _ else _)
    rw [if_pos (by omega), if_pos (by omega)]
theorem trimF_own {F : Fun} {n : Nat} (h : Dep n F) (k : Nat) (y : Nat → Bool) : trimF F n k y = F y := by
  rw [trimF_eq]; exact h _ _ fun v hv => by show (if _ then _ else _) = _; rw [if_neg (by omega)]

/-- The variables of a mask set, as far as j. -/
def restrF (F : Fun) (m x : Nat) : Nat → Fun
  | 0 => F
  | j + 1 => if m.testBit j then fixF (restrF F m x j) j (x.testBit j) else restrF F m x j
theorem restrF_eq (F : Fun) (m x : Nat) : ∀ (j : Nat) y, restrF F m x j y = F (fun v => if v < j ∧ m.testBit v = true then x.testBit v else y v)
  | 0, y => by
    show F y = _
    congr 1
  | j + 1, y => by
    show (if m.testBit j then fixF (restrF F m x j) j (x.testBit j) else restrF F m x j) y = _
    by_cases hm : m.testBit j = true
    · rw [if_pos hm]
      show restrF F m x j (Bdd.upd y j (x.testBit j)) = _
      rw [restrF_eq F m x j]
      congr 1; funext v
      unfold Bdd.upd
      by_cases e : v = j
      · subst e; simp [hm]
      · by_cases h : v < j ∧ m.testBit v = true
        · rw [if_pos h, if_pos ⟨by omega, h.2⟩]
        · rw [if_neg h, if_neg e, if_neg (fun hh => h ⟨by omega, hh.2⟩)]
    · rw [if_neg hm, restrF_eq F m x j]
      congr 1; funext v
      by_cases h : v < j ∧ m.testBit v = true
      · rw [if_pos h, if_pos ⟨by omega, h.2⟩]
      · rw [if_neg h, if_neg (fun hh => h ⟨by have : v ≠ j := fun e => hm (e ▸ hh.2); omega, hh.2⟩)]

/-- A table in a block beside the result's. -/
structure Two (F : Fun) (w : World) (r b : Nat) (wr : World) : Prop where
  res : Blk wr r #[.int .u64 0, .int .u64 0, .int .u64 0, .int .u64 0] 49
  tab : Blk wr b (tcells F) 49
  fr : Fr [] w wr
  le : w.heap.size ≤ r ∧ w.heap.size ≤ b ∧ r ≠ b
theorem Two.start (F : Fun) (w : World) : Two F w (w.heap.size + 1) w.heap.size ((w.alloc (.cells (tcells F) 49)).alloc (.cells #[.int .u64 0, .int .u64 0, .int .u64 0, .int .u64 0] 49)) := by
  have h := Turn.start1 F F w
  exact ⟨h.res, by rw [← mix_zero F F]; exact h.tab, h.fr, h.le⟩
theorem Two.then {F : Fun} {w wr w' : World} {r b : Nat} (h : Two F w r b wr) (f : Fr [] wr w') : Two F w r b w' := ⟨h.res.fr f (by simp), h.tab.fr f (by simp), h.fr.then f, h.le⟩
theorem Two.set {F G : Fun} {w wr : World} {r b : Nat} (h : Two F w r b wr) : Two G w r b ((((wr.setCell ⟨b, 0, none⟩ (.int .u64 (wd G 0 : Nat))).setCell ⟨b, 1, none⟩ (.int .u64 (wd G 1 : Nat))).setCell ⟨b, 2, none⟩ (.int .u64 (wd G 2 : Nat))).setCell ⟨b, 3, none⟩ (.int .u64 (wd G 3 : Nat))) :=
  ⟨(((h.res.other _ h.le.2.2).other _ h.le.2.2).other _ h.le.2.2).other _ h.le.2.2, h.tab.four rfl,
    (((h.fr.setCell _ (.inr h.le.2.1)).setCell _ (.inr h.le.2.1)).setCell _ (.inr h.le.2.1)).setCell _ (.inr h.le.2.1), h.le⟩
theorem Two.all {F : Fun} {w wr : World} {r b : Nat} (h : Two F w r b wr) :
    (wr.cell? ⟨b, 0, none⟩ = some (.int .u64 (wd F 0 : Nat)) ∧ wr.cell? ⟨b, 1, none⟩ = some (.int .u64 (wd F 1 : Nat)) ∧ wr.cell? ⟨b, 2, none⟩ = some (.int .u64 (wd F 2 : Nat)) ∧ wr.cell? ⟨b, 3, none⟩ = some (.int .u64 (wd F 3 : Nat))) ∧
    (wr.frozen? ⟨b, 0, none⟩ = false ∧ wr.frozen? ⟨b, 1, none⟩ = false ∧ wr.frozen? ⟨b, 2, none⟩ = false ∧ wr.frozen? ⟨b, 3, none⟩ = false) ∧
    (wr.cell? ⟨r, 0, none⟩ = some (.int .u64 0) ∧ wr.cell? ⟨r, 1, none⟩ = some (.int .u64 0) ∧ wr.cell? ⟨r, 2, none⟩ = some (.int .u64 0) ∧ wr.cell? ⟨r, 3, none⟩ = some (.int .u64 0)) ∧
    (wr.frozen? ⟨r, 0, none⟩ = false ∧ wr.frozen? ⟨r, 1, none⟩ = false ∧ wr.frozen? ⟨r, 2, none⟩ = false ∧ wr.frozen? ⟨r, 3, none⟩ = false) :=
  ⟨⟨h.tab.cell 0 rfl, h.tab.cell 1 rfl, h.tab.cell 2 rfl, h.tab.cell 3 rfl⟩, ⟨h.tab.free 0, h.tab.free 1, h.tab.free 2, h.tab.free 3⟩, ⟨h.res.cell 0 rfl, h.res.cell 1 rfl, h.res.cell 2 rfl, h.res.cell 3 rfl⟩, ⟨h.res.free 0, h.res.free 1, h.res.free 2, h.res.free 3⟩⟩

theorem tmax (P : Program) (w : World) (ts : Array TypeId) (t : TypeId) (n : Nat) : (Builtin.max_ ts t #[.int .i64 (n : Int), .int .i64 0]).run P w = .ok (.int .i64 (n : Int)) w := by
  go_simp
  intro h
  omega

set_option maxHeartbeats 4000000 in
set_option maxRecDepth 8000 in
theorem ttrim_any (F : Fun) (n : Nat) (w : World) (hn : n ≤ 8) :
    Calls Tryz.prog 38 #[tv F, .int .i64 (n : Int)] w fun e w' => e = .returned (tv (trimF F n (8 - n))) ∧ Fr [] w w' := by
  have R0 := Lib.hid (Two.start F w)
  have hmx : ∀ (w : World) (ts : Array TypeId) (t : TypeId), (Builtin.max_ ts t #[.int .i64 (n : Int), .int .i64 0]).run Tryz.prog w = .ok (.int .i64 (n : Int)) w := fun w ts t => tmax _ w ts t n
  go_enter Tryz.func38, Tryz.ntmps38
  go_wp2_with fail
  go_loopg [5] (8 - n) (fun k i wr => ∃ j : Nat, j ≤ 8 - n ∧ k = 8 - n - j ∧ i = .int .i64 ((n + j : Nat) : Int) ∧ Two (trimF F n j) w (w.heap.size + 1) w.heap.size wr)
  case atStart => exact ⟨0, by omega, by omega, rfl, R0.out⟩
  case round =>
    obtain ⟨j, hj, hk, rfl, hr⟩ := hrel
    obtain ⟨⟨c0, c1, c2, c3⟩, ⟨f0, f1, f2, f3⟩, ⟨d0, d1, d2, d3⟩, ⟨g0, g1, g2, g3⟩⟩ := hr.all
    have HR := Lib.hid hr
    clear hr
    by_cases hlt : j < 8 - n
    · clear d0 d1 d2 d3 g0 g1 g2 g3
      go_wp2_with fail
      refine (tfix_any (trimF F n j) (n + j) false _ (by omega)).mono ?_
      rintro e w1 ⟨rfl, hF⟩
      have h1 := HR.out.then hF
      obtain ⟨⟨k0, k1, k2, k3⟩, ⟨l0, l1, l2, l3⟩, _⟩ := h1.all
      have H2 := Lib.hid (h1.set (G := trimF F n (j + 1)))
      clear h1 hF c0 c1 c2 c3 f0 f1 f2 f3
      go_wp2
      go_roundg (8 - n - (j + 1))
      case measure => omega
      case rel => exact ⟨j + 1, by omega, rfl, by go_num, H2.out⟩
    · have e : j = 8 - n := by omega
      have h8 : ¬ ((n + j : Nat) : Int) < 8 := by omega
      have hE : tv (trimF F n j) = tv (trimF F n (8 - n)) := by rw [e]
      have HE := Lib.hid hE
      clear hE e
      go_wp2
      refine bodyPost_ret (results_table rfl rfl (HR.out.res.four rfl)) rfl ⟨by rw [← HE.out], ?_⟩
      exact (((HR.out.fr.setCell _ (.inr HR.out.le.1)).setCell _ (.inr HR.out.le.1)).setCell _ (.inr HR.out.le.1)).setCell _ (.inr HR.out.le.1)
end Go.Proofs.YtiojnjihbidbiaaGreat

/- The statements' tables, walked: joined word by word; a variable set; trimmed; restricted. -/
import Derived.Test.YtiojnjihbidbiaaGreatTabA
namespace Go.Proofs.YtiojnjihbidbiaaGreat
open Go.RowKit
attribute [local go_sem ↓] Go.wp_at_zero Go.wp_at_succ
set_option linter.unusedVariables false

/-- Two tables, the first turned word by word. -/
structure Turn2 (H F G : Fun) (w : World) (r b d j : Nat) (wr : World) : Prop where
  turn : Turn H F w r b j wr
  two : Blk wr d (tcells G) 49
  ne : b ≠ d
theorem Turn2.step {H F G : Fun} {w wr : World} {r b d j : Nat} (h : Turn2 H F G w r b d j wr) (hj : j < 4) : Turn2 H F G w r b d (j + 1) (wr.setCell ⟨b, j, none⟩ (.int .u64 (wd H j : Nat))) :=
  ⟨h.turn.step hj, h.two.other _ h.ne.symm, h.ne⟩
theorem Turn2.drew {H F G : Fun} {w wr : World} {r b d j : Nat} (h : Turn2 H F G w r b d j wr) : Turn2 H F G w r b d j wr.drew := ⟨h.turn.drew, h.two, h.ne⟩
theorem Turn2.start (H F G : Fun) (w : World) : Turn2 H F G w (w.heap.size + 2) w.heap.size (w.heap.size + 1) 0
    (((w.alloc (.cells (tcells F) 49)).alloc (.cells (tcells G) 49)).alloc (.cells #[.int .u64 0, .int .u64 0, .int .u64 0, .int .u64 0] 49)) := by
  refine ⟨⟨?_, by rw [mix_zero]; exact ((Blk.new w _ _).alloc _).alloc _, (((Fr.refl [] w).alloc _).alloc _).alloc _, by omega, Nat.le_refl _, by omega⟩, ?_, by omega⟩
  · have := Blk.new ((w.alloc (.cells (tcells F) 49)).alloc (.cells (tcells G) 49)) #[.int .u64 0, .int .u64 0, .int .u64 0, .int .u64 0] 49
    rw [World.size_alloc, World.size_alloc] at this; exact this
  · have := (Blk.new (w.alloc (.cells (tcells F) 49)) (tcells G) 49).alloc (.cells #[.int .u64 0, .int .u64 0, .int .u64 0, .int .u64 0] 49)
    rw [World.size_alloc] at this; exact this

theorem and_word (F G : Fun) (i : Nat) : bits BinOp.and IntKind.u64 ((wd F i : Nat) : Int) ((wd G i : Nat) : Int) = ((wd (fun y => F y && G y) i : Nat) : Int) := by
  rw [u64_and_nat _ _ (wd_lt F i) (wd_lt G i), wd_and]

set_option maxHeartbeats 1000000 in
set_option maxRecDepth 4000 in
theorem tand_any (F G : Fun) (w : World) :
    Calls Tryz.prog 65 #[tv F, tv G] w fun e w' => e = .returned (tv fun y => F y && G y) ∧ Fr [] w w' := by
  have R0 := Lib.hid (Turn2.start (fun y => F y && G y) F G w)
  go_enter Tryz.func65, Tryz.ntmps65
  go_wp2_with fail
  go_loopg [5] 4 (fun k i wr => ∃ j : Nat, j ≤ 4 ∧ k = 4 - j ∧ i = .int .i64 (j : Int) ∧ Turn2 (fun y => F y && G y) F G w (w.heap.size + 2) w.heap.size (w.heap.size + 1) j wr)
  case atStart => exact ⟨0, by omega, by omega, rfl, R0.out⟩
  case round =>
    obtain ⟨j, hj, hk, rfl, hr⟩ := hrel
    by_cases hlt : j < 4
    · have c := hr.turn.cell hlt
      have f := hr.turn.tab.free j
      have c2 := hr.two.cell j (tcells_get _ hlt)
      have HR := Lib.hid hr
      clear hr
      go_wp2_with fail
      go_region
      all_goals
        go_wp2
        rw [and_word]
        go_roundg (4 - (j + 1))
        case measure => omega
        case rel => exact ⟨j + 1, by omega, rfl, by go_num, (HR.out.step hlt).drew⟩
    · have e : j = 4 := by omega
      subst e
      have hT := hr.turn.tab
      rw [mix_all] at hT
      have c0 := hT.cell 0 (v := .int .u64 (wd (fun y => F y && G y) 0 : Nat)) rfl
      have c1 := hT.cell 1 (v := .int .u64 (wd (fun y => F y && G y) 1 : Nat)) rfl
      have c2 := hT.cell 2 (v := .int .u64 (wd (fun y => F y && G y) 2 : Nat)) rfl
      have c3 := hT.cell 3 (v := .int .u64 (wd (fun y => F y && G y) 3 : Nat)) rfl
      have f0 := hr.turn.res.free 0
      have f1 := hr.turn.res.free 1
      have f2 := hr.turn.res.free 2
      have f3 := hr.turn.res.free 3
      have d0 := hr.turn.res.cell 0 (v := .int .u64 0) rfl
      have d1 := hr.turn.res.cell 1 (v := .int .u64 0) rfl
      have d2 := hr.turn.res.cell 2 (v := .int .u64 0) rfl
      have d3 := hr.turn.res.cell 3 (v := .int .u64 0) rfl
      have HR := Lib.hid hr
      clear hr hT
      go_wp2
      refine bodyPost_ret (results_table rfl rfl (HR.out.turn.res.four rfl)) rfl ⟨rfl, ?_⟩
      have hle := HR.out.turn.le.1
      exact (((HR.out.turn.fr.setCell _ (.inr hle)).setCell _ (.inr hle)).setCell _ (.inr hle)).setCell _ (.inr hle)

theorem or_word (F G : Fun) (i : Nat) : bits BinOp.or IntKind.u64 ((wd F i : Nat) : Int) ((wd G i : Nat) : Int) = ((wd (fun y => F y || G y) i : Nat) : Int) := by
  rw [u64_or_nat _ _ (wd_lt F i) (wd_lt G i), wd_or]

set_option maxHeartbeats 1000000 in
set_option maxRecDepth 4000 in
theorem tor_any (F G : Fun) (w : World) :
    Calls Tryz.prog 61 #[tv F, tv G] w fun e w' => e = .returned (tv fun y => F y || G y) ∧ Fr [] w w' := by
  have R0 := Lib.hid (Turn2.start (fun y => F y || G y) F G w)
  go_enter Tryz.func61, Tryz.ntmps61
  go_wp2_with fail
  go_loopg [5] 4 (fun k i wr => ∃ j : Nat, j ≤ 4 ∧ k = 4 - j ∧ i = .int .i64 (j : Int) ∧ Turn2 (fun y => F y || G y) F G w (w.heap.size + 2) w.heap.size (w.heap.size + 1) j wr)
  case atStart => exact ⟨0, by omega, by omega, rfl, R0.out⟩
  case round =>
    obtain ⟨j, hj, hk, rfl, hr⟩ := hrel
    by_cases hlt : j < 4
    · have c := hr.turn.cell hlt
      have f := hr.turn.tab.free j
      have c2 := hr.two.cell j (tcells_get _ hlt)
      have HR := Lib.hid hr
      clear hr
      go_wp2_with fail
      go_region
      all_goals
        go_wp2
        rw [or_word]
        go_roundg (4 - (j + 1))
        case measure => omega
        case rel => exact ⟨j + 1, by omega, rfl, by go_num, (HR.out.step hlt).drew⟩
    · have e : j = 4 := by omega
      subst e
      have hT := hr.turn.tab
      rw [mix_all] at hT
      have c0 := hT.cell 0 (v := .int .u64 (wd (fun y => F y || G y) 0 : Nat)) rfl
      have c1 := hT.cell 1 (v := .int .u64 (wd (fun y => F y || G y) 1 : Nat)) rfl
      have c2 := hT.cell 2 (v := .int .u64 (wd (fun y => F y || G y) 2 : Nat)) rfl
      have c3 := hT.cell 3 (v := .int .u64 (wd (fun y => F y || G y) 3 : Nat)) rfl
      have f0 := hr.turn.res.free 0
      have f1 := hr.turn.res.free 1
      have f2 := hr.turn.res.free 2
      have f3 := hr.turn.res.free 3
      have d0 := hr.turn.res.cell 0 (v := .int .u64 0) rfl
      have d1 := hr.turn.res.cell 1 (v := .int .u64 0) rfl
      have d2 := hr.turn.res.cell 2 (v := .int .u64 0) rfl
      have d3 := hr.turn.res.cell 3 (v := .int .u64 0) rfl
      have HR := Lib.hid hr
      clear hr hT
      go_wp2
      refine bodyPost_ret (results_table rfl rfl (HR.out.turn.res.four rfl)) rfl ⟨rfl, ?_⟩
      have hle := HR.out.turn.le.1
      exact (((HR.out.turn.fr.setCell _ (.inr hle)).setCell _ (.inr hle)).setCell _ (.inr hle)).setCell _ (.inr hle)

theorem xor_word (F G : Fun) (i : Nat) : bits BinOp.xor IntKind.u64 ((wd F i : Nat) : Int) ((wd G i : Nat) : Int) = ((wd (fun y => F y ^^ G y) i : Nat) : Int) := by
  rw [u64_xor_nat _ _ (wd_lt F i) (wd_lt G i), wd_xor]

set_option maxHeartbeats 1000000 in
set_option maxRecDepth 4000 in
theorem txor_any (F G : Fun) (w : World) :
    Calls Tryz.prog 76 #[tv F, tv G] w fun e w' => e = .returned (tv fun y => F y ^^ G y) ∧ Fr [] w w' := by
  have R0 := Lib.hid (Turn2.start (fun y => F y ^^ G y) F G w)
  go_enter Tryz.func76, Tryz.ntmps76
  go_wp2_with fail
  go_loopg [5] 4 (fun k i wr => ∃ j : Nat, j ≤ 4 ∧ k = 4 - j ∧ i = .int .i64 (j : Int) ∧ Turn2 (fun y => F y ^^ G y) F G w (w.heap.size + 2) w.heap.size (w.heap.size + 1) j wr)
  case atStart => exact ⟨0, by omega, by omega, rfl, R0.out⟩
  case round =>
    obtain ⟨j, hj, hk, rfl, hr⟩ := hrel
    by_cases hlt : j < 4
    · have c := hr.turn.cell hlt
      have f := hr.turn.tab.free j
      have c2 := hr.two.cell j (tcells_get _ hlt)
      have HR := Lib.hid hr
      clear hr
      go_wp2_with fail
      go_region
      all_goals
        go_wp2
        rw [xor_word]
        go_roundg (4 - (j + 1))
        case measure => omega
        case rel => exact ⟨j + 1, by omega, rfl, by go_num, (HR.out.step hlt).drew⟩
    · have e : j = 4 := by omega
      subst e
      have hT := hr.turn.tab
      rw [mix_all] at hT
      have c0 := hT.cell 0 (v := .int .u64 (wd (fun y => F y ^^ G y) 0 : Nat)) rfl
      have c1 := hT.cell 1 (v := .int .u64 (wd (fun y => F y ^^ G y) 1 : Nat)) rfl
      have c2 := hT.cell 2 (v := .int .u64 (wd (fun y => F y ^^ G y) 2 : Nat)) rfl
      have c3 := hT.cell 3 (v := .int .u64 (wd (fun y => F y ^^ G y) 3 : Nat)) rfl
      have f0 := hr.turn.res.free 0
      have f1 := hr.turn.res.free 1
      have f2 := hr.turn.res.free 2
      have f3 := hr.turn.res.free 3
      have d0 := hr.turn.res.cell 0 (v := .int .u64 0) rfl
      have d1 := hr.turn.res.cell 1 (v := .int .u64 0) rfl
      have d2 := hr.turn.res.cell 2 (v := .int .u64 0) rfl
      have d3 := hr.turn.res.cell 3 (v := .int .u64 0) rfl
      have HR := Lib.hid hr
      clear hr hT
      go_wp2
      refine bodyPost_ret (results_table rfl rfl (HR.out.turn.res.four rfl)) rfl ⟨rfl, ?_⟩
      have hle := HR.out.turn.le.1
      exact (((HR.out.turn.fr.setCell _ (.inr hle)).setCell _ (.inr hle)).setCell _ (.inr hle)).setCell _ (.inr hle)

/-- Three tables and a result in memory. -/
structure Four (F G H : Fun) (b3 b4 b5 r : Nat) (w : World) : Prop where
  f : Blk w b3 (tcells F) 49
  g : Blk w b4 (tcells G) 49
  h : Blk w b5 (tcells H) 49
  r : Blk w r #[.int .u64 0, .int .u64 0, .int .u64 0, .int .u64 0] 49
theorem Four.fr {F G H : Fun} {b3 b4 b5 r : Nat} {w w' : World} (h : Four F G H b3 b4 b5 r w) (f : Fr [] w w') : Four F G H b3 b4 b5 r w' := ⟨h.f.fr f (by simp), h.g.fr f (by simp), h.h.fr f (by simp), h.r.fr f (by simp)⟩
theorem Four.all {F G H : Fun} {b3 b4 b5 r : Nat} {w' : World} (h : Four F G H b3 b4 b5 r w') : w'.cell? ⟨b3, 0, none⟩ = some (.int .u64 (wd F 0 : Nat)) ∧ w'.cell? ⟨b3, 1, none⟩ = some (.int .u64 (wd F 1 : Nat)) ∧ w'.cell? ⟨b3, 2, none⟩ = some (.int .u64 (wd F 2 : Nat)) ∧ w'.cell? ⟨b3, 3, none⟩ = some (.int .u64 (wd F 3 : Nat)) ∧ w'.cell? ⟨b4, 0, none⟩ = some (.int .u64 (wd G 0 : Nat)) ∧ w'.cell? ⟨b4, 1, none⟩ = some (.int .u64 (wd G 1 : Nat)) ∧ w'.cell? ⟨b4, 2, none⟩ = some (.int .u64 (wd G 2 : Nat)) ∧ w'.cell? ⟨b4, 3, none⟩ = some (.int .u64 (wd G 3 : Nat)) ∧ w'.cell? ⟨b5, 0, none⟩ = some (.int .u64 (wd H 0 : Nat)) ∧ w'.cell? ⟨b5, 1, none⟩ = some (.int .u64 (wd H 1 : Nat)) ∧ w'.cell? ⟨b5, 2, none⟩ = some (.int .u64 (wd H 2 : Nat)) ∧ w'.cell? ⟨b5, 3, none⟩ = some (.int .u64 (wd H 3 : Nat)) ∧ w'.cell? ⟨r, 0, none⟩ = some (.int .u64 0) ∧ w'.frozen? ⟨r, 0, none⟩ = false ∧ w'.cell? ⟨r, 1, none⟩ = some (.int .u64 0) ∧ w'.frozen? ⟨r, 1, none⟩ = false ∧ w'.cell? ⟨r, 2, none⟩ = some (.int .u64 0) ∧ w'.frozen? ⟨r, 2, none⟩ = false ∧ w'.cell? ⟨r, 3, none⟩ = some (.int .u64 0) ∧ w'.frozen? ⟨r, 3, none⟩ = false :=
  ⟨h.f.cell 0 rfl, h.f.cell 1 rfl, h.f.cell 2 rfl, h.f.cell 3 rfl, h.g.cell 0 rfl, h.g.cell 1 rfl, h.g.cell 2 rfl, h.g.cell 3 rfl, h.h.cell 0 rfl, h.h.cell 1 rfl, h.h.cell 2 rfl, h.h.cell 3 rfl,
    h.r.cell 0 rfl, h.r.free 0, h.r.cell 1 rfl, h.r.free 1, h.r.cell 2 rfl, h.r.free 2, h.r.cell 3 rfl, h.r.free 3⟩

set_option maxHeartbeats 4000000 in
set_option maxRecDepth 8000 in
theorem tite_any (F G H : Fun) (w : World) :
    Calls Tryz.prog 152 #[tv F, tv G, tv H] w fun e w' => e = .returned (tv fun y => (F y && G y) || (!(F y) && H y)) ∧ Fr [] w w' := by
  have h0 : Four F G H w.heap.size (w.heap.size + 1) (w.heap.size + 1 + 1) (w.heap.size + 1 + 1 + 1) ((((w.alloc (.cells (tcells F) 49)).alloc (.cells (tcells G) 49)).alloc (.cells (tcells H) 49)).alloc (.cells #[.int .u64 0, .int .u64 0, .int .u64 0, .int .u64 0] 49)).drew := by
    refine ⟨(((Blk.new w _ _).alloc _).alloc _).alloc _, ?_, ?_, ?_⟩
    · have := ((Blk.new (w.alloc (.cells (tcells F) 49)) (tcells G) 49).alloc (.cells (tcells H) 49)).alloc (.cells #[.int .u64 0, .int .u64 0, .int .u64 0, .int .u64 0] 49)
      rw [World.size_alloc] at this; exact this
    · have := (Blk.new ((w.alloc (.cells (tcells F) 49)).alloc (.cells (tcells G) 49)) (tcells H) 49).alloc (.cells #[.int .u64 0, .int .u64 0, .int .u64 0, .int .u64 0] 49)
      rw [World.size_alloc, World.size_alloc] at this; exact this
    · have := Blk.new (((w.alloc (.cells (tcells F) 49)).alloc (.cells (tcells G) 49)).alloc (.cells (tcells H) 49)) #[.int .u64 0, .int .u64 0, .int .u64 0, .int .u64 0] 49
      rw [World.size_alloc, World.size_alloc, World.size_alloc] at this; exact this
  have F0 : Fr [] w ((((w.alloc (.cells (tcells F) 49)).alloc (.cells (tcells G) 49)).alloc (.cells (tcells H) 49)).alloc (.cells #[.int .u64 0, .int .u64 0, .int .u64 0, .int .u64 0] 49)).drew := (((((Fr.refl [] w).alloc _).alloc _).alloc _).alloc _).drew
  have hle : w.heap.size ≤ w.heap.size + 1 + 1 + 1 := by omega
  have n1 : w.heap.size + 1 + 1 + 1 ≠ w.heap.size := by omega
  have n2 : w.heap.size + 1 + 1 + 1 ≠ w.heap.size + 1 := by omega
  have n3 : w.heap.size + 1 + 1 + 1 ≠ w.heap.size + 1 + 1 := by omega
  have H0 := Lib.hid h0
  have HF0 := Lib.hid F0
  have HL := Lib.hid hle
  clear h0 F0 hle
  go_enter Tryz.func152, Tryz.ntmps152
  go_wp2_with fail
  generalize (((w.alloc (.cells (tcells F) 49)).alloc (.cells (tcells G) 49)).alloc (.cells (tcells H) 49)).alloc (.cells #[.int .u64 0, .int .u64 0, .int .u64 0, .int .u64 0] 49) = w4 at H0 HF0 ⊢
  generalize w.heap.size + 1 + 1 + 1 = r at H0 HL n1 n2 n3 ⊢
  generalize w.heap.size + 1 + 1 = b5 at H0 HL n3 ⊢
  generalize w.heap.size + 1 = b4 at H0 HL n2 ⊢
  generalize w.heap.size = b3 at H0 n1 ⊢
  obtain ⟨o0, o1, o2, o3, o4, o5, o6, o7, o8, o9, o10, o11, o12, o13, o14, o15, o16, o17, o18, o19⟩ := H0.out.all
  go_region_held3 (fun w' => w'.cell? ⟨b3, 0, none⟩ = some (.int .u64 (wd F 0 : Nat)) ∧ w'.cell? ⟨b3, 1, none⟩ = some (.int .u64 (wd F 1 : Nat)) ∧ w'.cell? ⟨b3, 2, none⟩ = some (.int .u64 (wd F 2 : Nat)) ∧ w'.cell? ⟨b3, 3, none⟩ = some (.int .u64 (wd F 3 : Nat)) ∧ w'.cell? ⟨b4, 0, none⟩ = some (.int .u64 (wd G 0 : Nat)) ∧ w'.cell? ⟨b4, 1, none⟩ = some (.int .u64 (wd G 1 : Nat)) ∧ w'.cell? ⟨b4, 2, none⟩ = some (.int .u64 (wd G 2 : Nat)) ∧ w'.cell? ⟨b4, 3, none⟩ = some (.int .u64 (wd G 3 : Nat)) ∧ w'.cell? ⟨b5, 0, none⟩ = some (.int .u64 (wd H 0 : Nat)) ∧ w'.cell? ⟨b5, 1, none⟩ = some (.int .u64 (wd H 1 : Nat)) ∧ w'.cell? ⟨b5, 2, none⟩ = some (.int .u64 (wd H 2 : Nat)) ∧ w'.cell? ⟨b5, 3, none⟩ = some (.int .u64 (wd H 3 : Nat))) (go_keep)
    (first
     | (go_at_call 65; (with_reducible refine (tand_any F G _).mono ?_); rintro e w1 ⟨rfl, hA⟩; have H1 := Lib.hid (H0.out.fr hA); have G1 := Lib.hid (hA); obtain ⟨p0, p1, p2, p3, p4, p5, p6, p7, p8, p9, p10, p11, p12, p13, p14, p15, p16, p17, p18, p19⟩ := H1.out.all; clear hA o0 o1 o2 o3 o4 o5 o6 o7 o8 o9 o10 o11 o12 o13 o14 o15 o16 o17 o18 o19)
     | (go_at_call 111; (with_reducible refine (tnot_any F _).mono ?_); rintro e w2 ⟨rfl, hA⟩; have H2 := Lib.hid (H1.out.fr hA); have G2 := Lib.hid (G1.out.then hA); obtain ⟨q0, q1, q2, q3, q4, q5, q6, q7, q8, q9, q10, q11, q12, q13, q14, q15, q16, q17, q18, q19⟩ := H2.out.all; clear hA p0 p1 p2 p3 p4 p5 p6 p7 p8 p9 p10 p11 p12 p13 p14 p15 p16 p17 p18 p19)
     | (go_at_call 65; (with_reducible refine (tand_any (fun y => !(F y)) H _).mono ?_); rintro e w3 ⟨rfl, hA⟩; have H3 := Lib.hid (H2.out.fr hA); have G3 := Lib.hid (G2.out.then hA); obtain ⟨r0, r1, r2, r3, r4, r5, r6, r7, r8, r9, r10, r11, r12, r13, r14, r15, r16, r17, r18, r19⟩ := H3.out.all; clear hA q0 q1 q2 q3 q4 q5 q6 q7 q8 q9 q10 q11 q12 q13 q14 q15 q16 q17 q18 q19)
     | (go_at_call 61; (with_reducible refine (tor_any (fun y => F y && G y) (fun y => !(F y) && H y) _).mono ?_); rintro e w5 ⟨rfl, hA⟩; have H4 := Lib.hid (H3.out.fr hA); have G4 := Lib.hid (G3.out.then hA); obtain ⟨s0, s1, s2, s3, s4, s5, s6, s7, s8, s9, s10, s11, s12, s13, s14, s15, s16, s17, s18, s19⟩ := H4.out.all; clear hA r0 r1 r2 r3 r4 r5 r6 r7 r8 r9 r10 r11 r12 r13 r14 r15 r16 r17 r18 r19))
  go_wp2
  refine bodyPost_ret (results_table rfl rfl (H4.out.r.four rfl)) rfl ⟨rfl, ?_⟩
  have hF := HF0.out.then G4.out
  exact (((hF.setCell _ (.inr HL.out)).setCell _ (.inr HL.out)).setCell _ (.inr HL.out)).setCell _ (.inr HL.out)
end Go.Proofs.YtiojnjihbidbiaaGreat

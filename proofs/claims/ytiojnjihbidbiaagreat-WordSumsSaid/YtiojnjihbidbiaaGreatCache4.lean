/- Package cache, walked, its fourth part; and the store's Recall and Note: a look-up and a writing driven to their ends. -/
import Derived.Test.YtiojnjihbidbiaaGreatCache3
namespace Go.Proofs.YtiojnjihbidbiaaGreat
open Go.RowKit
attribute [local go_sem ↓] Go.wp_at_zero Go.wp_at_succ
set_option linter.unusedVariables false

theorem line_any (c m cb : Nat) (C : List Nat) (key : Nat) (w : World) (hC : CacheAt w c m cb C) :
    Calls Tryz.prog 274 #[.pointer (some ⟨c, 0, none⟩), .int .u64 (key : Int)] w fun e w' => e = .returned (.int .i64 ((3 * homeF 256 key : Nat) : Int)) ∧ ∃ n, w' = w.drewN n := by
  obtain ⟨hc, hM, hne, hne2, hl⟩ := hC
  have c1 := hc.cell 1 rfl
  have c2 := hc.cell 2 rfl
  have hlt := homeF_lt (show 0 < 256 by omega) key
  have e1 : IntKind.i64.wrap (3 * ((homeF 256 key : Nat) : Int)) = 3 * ((homeF 256 key : Nat) : Int) := IntWalk.i64_in _ (by omega)
  have e2 : IntKind.i64.wrap (0 + 3 * ((homeF 256 key : Nat) : Int)) = 0 + 3 * ((homeF 256 key : Nat) : Int) := IntWalk.i64_in _ (by omega)
  go_enter Tryz.func274, Tryz.ntmps274
  go_wp2_with fail
  go_quiet ((go_at_call 216; exact Calls.quiet_of_same ((home_any key _ _ (by omega) (by omega)).mono fun e w' ⟨h1, h2⟩ => ⟨h1, h2.symm⟩)))
  go_wp2
  go_ret
  exact ⟨ret_int (by simp), ⟨_, rfl⟩⟩

theorem line_fr (c m cb : Nat) (C : List Nat) (key : Nat) (w : World) (hC : CacheAt w c m cb C) :
    Calls Tryz.prog 274 #[.pointer (some ⟨c, 0, none⟩), .int .u64 (key : Int)] w fun e w' => e = .returned (.int .i64 ((3 * homeF 256 key : Nat) : Int)) ∧ CacheAt w' c m cb C ∧ Fr [] w w' := by
  refine (line_any c m cb C key w hC).mono ?_
  rintro e w' ⟨rfl, n, rfl⟩
  exact ⟨rfl, hC.fr ((Fr.refl [] w).drewN n) (by simp) (by simp) (by simp), (Fr.refl [] w).drewN n⟩

theorem get_any (c m cb : Nat) (C : List Nat) (key : Nat) (w : World) (hC : CacheAt w c m cb C) :
    Calls Tryz.prog 253 #[.pointer (some ⟨c, 0, none⟩), .int .u64 (key : Int)] w fun e w' => ∃ f, e = .returned (.pointer (some ⟨f, 0, none⟩)) ∧
      Blk w' f (acells m (3 * homeF 256 key) key 0 0 (actV 275 f) false false 0) 321 ∧ CacheAt w' c m cb C ∧ Fr [] w w' ∧ w.heap.size ≤ f := by
  have hCC := hC
  obtain ⟨hc, hM, hne, hne2, hl⟩ := hC
  have c0 := hc.cell 0 rfl
  go_enter Tryz.func253, Tryz.ntmps253
  go_wp2_with fail
  go_region_held3 (fun w' => w'.cell? ⟨c, 0, none⟩ = some (.pointer (some ⟨m, 0, none⟩))) (go_keep)
    ((go_at_call 274; refine (line_fr c m cb C key _ (by exact hCC)).mono ?_; rintro e w1 ⟨rfl, hC1, hF⟩; have k0 := hC1.1.cell 0 rfl))
  go_wp2
  go_ret
  refine ⟨_, rfl, Blk.new w1 _ _, ?_, ?_, hF.size⟩
  · exact CacheAt.fr hC1 ((Fr.refl [] w1).alloc _) (by simp) (by simp) (by simp)
  · exact hF.undrew.alloc _

theorem put_any (c m cb : Nat) (C : List Nat) (key val : Nat) (w : World) (hC : CacheAt w c m cb C) :
    Calls Tryz.prog 258 #[.pointer (some ⟨c, 0, none⟩), .int .u64 (key : Int), .int .u64 (val : Int)] w fun e w' => ∃ f, e = .returned (.pointer (some ⟨f, 0, none⟩)) ∧
      Blk w' f (acells m (3 * homeF 256 key) key val 0 (actV 276 f) false false 0) 321 ∧ CacheAt w' c m cb C ∧ Fr [] w w' ∧ w.heap.size ≤ f := by
  have hCC := hC
  obtain ⟨hc, hM, hne, hne2, hl⟩ := hC
  have c0 := hc.cell 0 rfl
  go_enter Tryz.func258, Tryz.ntmps258
  go_wp2_with fail
  go_region_held3 (fun w' => w'.cell? ⟨c, 0, none⟩ = some (.pointer (some ⟨m, 0, none⟩))) (go_keep)
    ((go_at_call 274; refine (line_fr c m cb C key _ (by exact hCC)).mono ?_; rintro e w1 ⟨rfl, hC1, hF⟩; have k0 := hC1.1.cell 0 rfl))
  go_wp2
  go_ret
  refine ⟨_, rfl, Blk.new w1 _ _, ?_, ?_, hF.size⟩
  · exact CacheAt.fr hC1 ((Fr.refl [] w1).alloc _) (by simp) (by simp) (by simp)
  · exact hF.undrew.alloc _

theorem got_ok (f m p key val ver got : Nat) (nx : Value) (w : World) (h : Blk w f (acells m p key val ver nx true true got) 321) :
    Calls Tryz.prog 256 #[.pointer (some ⟨f, 0, none⟩)] w fun e w' => e = .returned (.tuple #[.int .u64 (got : Int), .bool true]) ∧ w = w' := by
  unfold acells at h
  have c6 := h.cell 6 rfl
  have c7 := h.cell 7 rfl
  have c8 := h.cell 8 rfl
  go_enter Tryz.func256, Tryz.ntmps256
  go_wp2
  go_ret2
  exact ⟨rfl, rfl⟩

theorem got_not (f m p key val ver got : Nat) (nx : Value) (w : World) (h : Blk w f (acells m p key val ver nx true false got) 321) :
    Calls Tryz.prog 256 #[.pointer (some ⟨f, 0, none⟩)] w fun e w' => e = .returned (.tuple #[.int .u64 0, .bool false]) ∧ w = w' := by
  unfold acells at h
  have c6 := h.cell 6 rfl
  have c7 := h.cell 7 rfl
  have c8 := h.cell 8 rfl
  go_enter Tryz.func256, Tryz.ntmps256
  go_wp2
  go_ret2
  exact ⟨rfl, rfl⟩

theorem Fr.of (O : List Nat) {w w' : World} (h : Fr [] w w') : Fr O w w' := h.mono (by simp)

/-- The store's cache is off: nothing is recalled. -/
theorem recall_off (s : Nat) (op mk a b c : Int) (w : World) (c7 : w.cell? ⟨s, 7, none⟩ = some (.bool true)) :
    Calls Tryz.prog 209 #[.pointer (some ⟨s, 0, none⟩), .int .u8 op, .int .u8 mk, .int .u32 a, .int .u32 b, .int .u32 c] w fun e w' => e = .returned (.tuple #[.int .u32 0, .bool false]) ∧ w = w' := by
  go_enter Tryz.func209, Tryz.ntmps209
  go_wp2
  go_ret2
  exact ⟨rfl, rfl⟩

end Go.Proofs.YtiojnjihbidbiaaGreat

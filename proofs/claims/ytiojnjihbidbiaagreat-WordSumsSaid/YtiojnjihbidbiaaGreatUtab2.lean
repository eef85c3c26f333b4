/- Package utable, walked, its second part: a finder's steps, and the finder driven to its end. -/
import Derived.Test.YtiojnjihbidbiaaGreatUtable
namespace Go.Proofs.YtiojnjihbidbiaaGreat
open Go.RowKit
attribute [local go_sem ↓] Go.wp_at_zero Go.wp_at_succ
set_option linter.unusedVariables false

/-- The key is laid into the empty slot. -/
theorem claims_hit (f t m cb : Nat) (K : List Nat) (key a left : Nat) (w : World) (h : Blk w f (fcells t key a left (claimsV f) false (-1) 61 false) 319) (hT : TableAt w t m cb K)
    (hf : f ≠ t ∧ f ≠ m ∧ f ≠ cb) (ha : a < K.length) (hz : K0 K a = 0) :
    Calls Tryz.prog 279 #[.pointer (some ⟨f, 0, none⟩)] w fun e w' => e = .returned (.tuple #[]) ∧
      Blk w' f (fcells t key a left (looksV f) true (a : Int) 0 true) 319 ∧ TableAt w' t m cb (K.set a key) ∧ Fr [f, m, cb] w w' := by
  have hTT := hT
  obtain ⟨ht, hm, hne, hne2, hl1, hl3⟩ := hT
  unfold fcells at h
  have c0 := h.cell 0 rfl
  have c1 := h.cell 1 rfl
  have c2 := h.cell 2 rfl
  have c4 := h.cell 4 rfl
  have f4 := h.free 4
  have t0 := ht.cell 0 rfl
  have t1 := ht.cell 1 rfl
  have hw : IntKind.i64.wrap (a : Int) = (a : Int) := IntWalk.i64_in _ (by omega)
  have h2 := h.set 4 (looksV f)
  have F1 : Fr [f] w (w.setCell ⟨f, 4, none⟩ (looksV f)) := (Fr.refl _ _).setCell _ (.inl (by simp))
  have d0 := h2.cell 0 rfl
  have d1 := h2.cell 1 rfl
  have d2 := h2.cell 2 rfl
  have ht2 := ht.fr F1 (by simp; omega)
  have d3 := ht2.cell 0 rfl
  have d4 := ht2.cell 1 rfl
  have hm2 := hm.fr F1 (by simp; omega) (by simp; omega)
  go_enter Tryz.func279, Tryz.ntmps279
  go_wp2_with fail
  go_region_held3 (fun w' => w'.cell? ⟨f, 0, none⟩ = some (.pointer (some ⟨t, 0, none⟩)) ∧ w'.cell? ⟨f, 1, none⟩ = some (.int .u64 (key : Int)) ∧ w'.cell? ⟨f, 2, none⟩ = some (.int .i64 (a : Int)) ∧ w'.cell? ⟨t, 0, none⟩ = some (.pointer (some ⟨m, 0, none⟩)) ∧ w'.cell? ⟨t, 1, none⟩ = some (.int .i64 0)) (go_keep)
    ((go_at_call 178; refine (cas_hit m cb K _ 0 key _ (by exact hm2) (by omega) (by omega) (by simpa using hz)).mono ?_; rintro e w1 ⟨rfl, hm3, hF⟩; have ht3 := ht2.drew.fr hF (by simp [hne, hne2]); have hf3 := h2.drew.fr hF (by simp [hf]); have k0 := ht3.cell 0 rfl; have k1 := ht3.cell 1 rfl; have k2 := hf3.cell 0 rfl; have k3 := hf3.cell 2 rfl; have k4 := hf3.cell 1 rfl; have k5 := hf3.cell 8 rfl; have f8 := hf3.free 8))
  have h4 := hf3.set 8 (.bool true)
  have F2 : Fr [f] w1 (w1.setCell ⟨f, 8, none⟩ (.bool true)) := (Fr.refl _ _).setCell _ (.inl (by simp))
  clear c0 c1 c2 t0 t1
  have ht4 := ht3.fr F2 (by simp; omega)
  have hm4 := hm3.fr F2 (by simp; omega) (by simp; omega)
  have k6 := h4.cell 2 rfl
  have k7 := h4.cell 5 rfl
  have k8 := h4.cell 6 rfl
  go_wp2_with fail
  refine (ends_any f _ _ _ _ h4 rfl).mono ?_
  rintro e w2 ⟨rfl, hB, hF2⟩
  go_wp2
  go_end0
  refine ⟨rfl, hB, ?_, ?_⟩
  · exact ⟨by rw [List.length_set]; exact ht4.fr hF2 (by simp; omega), (hm4.fr hF2 (by simp; omega) (by simp; omega)), hne, hne2, by rw [List.length_set]; exact hl1, by rw [List.length_set]; exact hl3⟩
  · exact (((F1.mono (by simp)).trans hF.undrew (by simp)).trans F2 (by simp)).trans hF2 (by simp)

theorem step_other (f t m cb : Nat) (K : List Nat) (key a left : Nat) (made : Bool) (w : World) (h : Blk w f (fcells t key a left (looksV f) false (-1) 61 made) 319) (hT : TableAt w t m cb K)
    (hf : f ≠ t ∧ f ≠ m ∧ f ≠ cb) (ha : a < K.length) (hl : 2 ≤ left) (hl2 : left ≤ K.length) (hz : K0 K a ≠ 0) (hk : K0 K a ≠ key) :
    Calls Tryz.prog 250 #[.pointer (some ⟨f, 0, none⟩)] w fun e w' => e = .returned (.bool false) ∧
      Blk w' f (fcells t key ((a + 1) % K.length) (left - 1) (looksV f) false (-1) 61 made) 319 ∧ TableAt w' t m cb K ∧ Fr [f, m] w w' := by
  have h' := h
  unfold fcells at h
  have c4 := h.cell 4 rfl
  have c5 := h.cell 5 rfl
  go_enter Tryz.func250, Tryz.ntmps250
  go_wp2_with fail
  refine (looks_other f t m cb K key a left made _ h' hT hf ha hl hl2 hz hk).mono ?_
  rintro e w1 ⟨rfl, hB, hT1, hF⟩
  have hB' := hB
  unfold fcells at hB
  have c5' := hB.cell 5 rfl
  go_wp2
  go_ret
  exact ⟨rfl, hB', hT1, hF⟩

theorem step_zero (f t m cb : Nat) (K : List Nat) (key a left : Nat) (made : Bool) (w : World) (h : Blk w f (fcells t key a left (looksV f) false (-1) 61 made) 319) (hT : TableAt w t m cb K)
    (hf : f ≠ t ∧ f ≠ m ∧ f ≠ cb) (ha : a < K.length) (hz : K0 K a = 0) (hk : key ≠ 0) :
    Calls Tryz.prog 250 #[.pointer (some ⟨f, 0, none⟩)] w fun e w' => e = .returned (.bool false) ∧
      Blk w' f (fcells t key a left (claimsV f) false (-1) 61 made) 319 ∧ TableAt w' t m cb K ∧ Fr [f, m] w w' := by
  have h' := h
  unfold fcells at h
  have c4 := h.cell 4 rfl
  have c5 := h.cell 5 rfl
  have HZ := Lib.hid hz
  clear hz
  go_enter Tryz.func250, Tryz.ntmps250
  go_wp2_with fail
  refine (looks_zero f t m cb K key a left made _ h' hT hf ha HZ.out hk).mono ?_
  rintro e w1 ⟨rfl, hB, hT1, hF⟩
  have hB' := hB
  unfold fcells at hB
  have c5' := hB.cell 5 rfl
  go_wp2
  go_ret
  exact ⟨rfl, hB', hT1, hF⟩

theorem step_claims (f t m cb : Nat) (K : List Nat) (key a left : Nat) (w : World) (h : Blk w f (fcells t key a left (claimsV f) false (-1) 61 false) 319) (hT : TableAt w t m cb K)
    (hf : f ≠ t ∧ f ≠ m ∧ f ≠ cb) (ha : a < K.length) (hz : K0 K a = 0) :
    Calls Tryz.prog 250 #[.pointer (some ⟨f, 0, none⟩)] w fun e w' => e = .returned (.bool true) ∧
      Blk w' f (fcells t key a left (looksV f) true (a : Int) 0 true) 319 ∧ TableAt w' t m cb (K.set a key) ∧ Fr [f, m, cb] w w' := by
  have h' := h
  unfold fcells at h
  have c4 := h.cell 4 rfl
  have c5 := h.cell 5 rfl
  have HZ := Lib.hid hz
  clear hz
  go_enter Tryz.func250, Tryz.ntmps250
  go_wp2_with fail
  refine (claims_hit f t m cb K key a left _ h' hT hf ha HZ.out).mono ?_
  rintro e w1 ⟨rfl, hB, hT1, hF⟩
  have hB' := hB
  unfold fcells at hB
  have c5' := hB.cell 5 rfl
  go_wp2
  go_ret
  exact ⟨rfl, hB', hT1, hF⟩

theorem slot_any (f : Nat) (t key a left : Nat) (nx : Value) (d mk : Bool) (sl e : Int) (w : World) (h : Blk w f (fcells t key a left nx d sl e mk) 319) :
    Calls Tryz.prog 251 #[.pointer (some ⟨f, 0, none⟩)] w fun x w' => x = .returned (.tuple #[.int .i64 sl, .int .i64 e]) ∧ Blk w' f (fcells t key a left nx d sl e mk) 319 ∧ Fr [] w w' := by
  have h' := h
  unfold fcells at h
  have c6 := h.cell 6 rfl
  have c7 := h.cell 7 rfl
  go_enter Tryz.func251, Tryz.ntmps251
  go_wp2_with fail
  go_quiet (fail)
  go_wp2
  go_ret2
  exact ⟨rfl, h'.drewN _, (Fr.refl _ _).drewN _⟩

theorem made_any (f : Nat) (t key a left : Nat) (nx : Value) (d mk : Bool) (sl e : Int) (w : World) (h : Blk w f (fcells t key a left nx d sl e mk) 319) :
    Calls Tryz.prog 252 #[.pointer (some ⟨f, 0, none⟩)] w fun x w' => x = .returned (.bool mk) ∧ w = w' := by
  unfold fcells at h
  have c8 := h.cell 8 rfl
  go_enter Tryz.func252, Tryz.ntmps252
  go_wp2
  go_ret
  exact ⟨rfl, rfl⟩

end Go.Proofs.YtiojnjihbidbiaaGreat

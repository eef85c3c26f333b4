/- Package cache, walked, its second part: the other steps of a look-up and of a writing. -/
import Derived.Test.YtiojnjihbidbiaaGreatCache
namespace Go.Proofs.YtiojnjihbidbiaaGreat
open Go.RowKit
attribute [local go_sem ↓] Go.wp_at_zero Go.wp_at_succ
set_option linter.unusedVariables false

theorem load_at (m cb : Nat) (K : List Nat) (i : Int) (n : Nat) (w : World) (h : MemAt w m cb K) (hi0 : i = n) (hi : n < K.length) :
    Calls Tryz.prog 177 #[.pointer (some ⟨m, 0, none⟩), .int .i64 i] w fun e w' => e = .returned (.int .u64 (K0 K n : Nat)) ∧ MemAt w' m cb K ∧ Fr [m] w w' := by
  subst hi0
  exact load_any m cb K n w h (by omega) (by omega)

theorem or1 (v : Nat) (h : v < 2 ^ 64) (he : v % 2 = 0) : bits BinOp.or IntKind.u64 (v : Int) 1 = ((v + 1 : Nat) : Int) := by
  have := or_sum 1 (v / 2) 1 (X := (v : Int)) (Y := 1) (by omega) (by omega) (by omega) (by omega) (by omega)
  rw [this]; omega
/-- The version that a line bears when it has been written. -/
def verF (v : Nat) : Nat := ((v ||| 2) + 4) % 2 ^ 64
theorem or2 (v : Nat) (h : v < 2 ^ 64) : IntKind.u64.wrap (bits BinOp.or IntKind.u64 (v : Int) 2 + 4) = ((verF v : Nat) : Int) := by
  have := u64_or_nat v 2 (by omega) (by omega)
  rw [show ((2 : Nat) : Int) = 2 from rfl] at this
  rw [this, IntKind.wrap_u64]
  unfold verF
  omega
theorem verF_mod (v : Nat) (he : v % 2 = 0) : verF v % 4 = 2 ∧ verF v < 2 ^ 64 := by
  have h1 : (v ||| 2) % 4 = 2 := by
    have e : (v ||| 2) % 2 ^ 2 = (v % 2 ^ 2 ||| 2 % 2 ^ 2) := Nat.or_mod_two_pow
    have hv : v % 4 = 0 ∨ v % 4 = 2 := by omega
    rcases hv with hv | hv
    · rw [show (4 : Nat) = 2 ^ 2 from rfl, e, show v % 2 ^ 2 = 0 from hv]; rfl
    · rw [show (4 : Nat) = 2 ^ 2 from rfl, e, show v % 2 ^ 2 = 2 from hv]; rfl
  unfold verF
  omega


/-- A look-up's second step: the line's key. -/
theorem acompares_any (f m cb : Nat) (C : List Nat) (p key val ver got : Nat) (nx : Value) (ok : Bool) (w : World) (h : Blk w f (acells m p key val ver nx false ok got) 321) (hM : MemAt w m cb C)
    (hf : f ≠ m ∧ f ≠ cb) (hC : C.length = 768) (hp : p + 1 < C.length) (b : Bool) (hb : ((K0 C (p + 1) : Int) != (key : Int)) = b) :
    Calls Tryz.prog 281 #[.pointer (some ⟨f, 0, none⟩)] w fun e w' => e = .returned (.tuple #[]) ∧
      Blk w' f (acells m p key val ver (actV 284 f) b ok got) 321 ∧ MemAt w' m cb C ∧ Fr [f, m] w w' := by
  unfold acells at h
  have c0 := h.cell 0 rfl
  have c1 := h.cell 1 rfl
  have c2 := h.cell 2 rfl
  have hw0 : IntKind.i64.wrap (p : Int) = (p : Int) := IntWalk.i64_in _ (by omega)
  have hw1 : IntKind.i64.wrap ((p : Int) + 1) = (p : Int) + 1 := IntWalk.i64_in _ (by omega)
  have hw2 : IntKind.i64.wrap ((p : Int) + 2) = (p : Int) + 2 := IntWalk.i64_in _ (by omega)
  go_enter Tryz.func281, Tryz.ntmps281
  go_wp2_with fail
  go_region_held3 (fun w' => w'.cell? ⟨f, 0, none⟩ = some (.pointer (some ⟨m, 0, none⟩)) ∧ w'.cell? ⟨f, 1, none⟩ = some (.int .i64 (p : Int)) ∧ w'.cell? ⟨f, 2, none⟩ = some (.int .u64 (key : Int))) (go_keep)
    ((go_at_call 177; refine (load_any m cb C _ _ (by exact hM) (by omega) (by omega)).mono ?_; rintro e w1 ⟨rfl, hM1, hF⟩; have h1 := h.drew.fr hF (by simp [hf]); have k0 := h1.cell 0 rfl; have k1 := h1.cell 1 rfl; have k2 := h1.cell 2 rfl; have j6 := h1.cell 6 rfl; have f6 := h1.free 6; have h2 := h1.set 6 (.bool b); have g0 := h2.cell 0 rfl; have g1 := h2.cell 1 rfl; have g2 := h2.cell 2 rfl))
  have l5 := h2.cell 5 rfl
  have m5 := h2.free 5
  have h3 := h2.set 5 (actV 284 f)
  have F1 := (((Fr.refl [f] w1).setCell (p := ⟨f, 6, none⟩) (.bool b) (.inl (by simp))).setCell (p := ⟨f, 5, none⟩) (actV 284 f) (.inl (by simp)))
  have hM4 := hM1.fr F1 (by simp; omega) (by simp; omega)
  have F := (hF.undrew.mono (O' := [f, m]) (by simp)).trans F1 (by simp)
  go_wp2
  go_end0
  exact ⟨rfl, h3, hM4, F⟩


/-- A look-up's third step: the line's value. -/
theorem areads_any (f m cb : Nat) (C : List Nat) (p key val ver got : Nat) (nx : Value) (ok : Bool) (w : World) (h : Blk w f (acells m p key val ver nx false ok got) 321) (hM : MemAt w m cb C)
    (hf : f ≠ m ∧ f ≠ cb) (hC : C.length = 768) (hp : p + 2 < C.length) :
    Calls Tryz.prog 284 #[.pointer (some ⟨f, 0, none⟩)] w fun e w' => e = .returned (.tuple #[]) ∧
      Blk w' f (acells m p key val ver (actV 288 f) false ok (K0 C (p + 2))) 321 ∧ MemAt w' m cb C ∧ Fr [f, m] w w' := by
  unfold acells at h
  have c0 := h.cell 0 rfl
  have c1 := h.cell 1 rfl
  have hw0 : IntKind.i64.wrap (p : Int) = (p : Int) := IntWalk.i64_in _ (by omega)
  have hw1 : IntKind.i64.wrap ((p : Int) + 1) = (p : Int) + 1 := IntWalk.i64_in _ (by omega)
  have hw2 : IntKind.i64.wrap ((p : Int) + 2) = (p : Int) + 2 := IntWalk.i64_in _ (by omega)
  go_enter Tryz.func284, Tryz.ntmps284
  go_wp2_with fail
  go_region_held3 (fun w' => w'.cell? ⟨f, 0, none⟩ = some (.pointer (some ⟨m, 0, none⟩)) ∧ w'.cell? ⟨f, 1, none⟩ = some (.int .i64 (p : Int))) (go_keep)
    ((go_at_call 177; refine (load_at m cb C _ (p + 2) _ (by exact hM) (by omega) (by omega)).mono ?_; rintro e w1 ⟨rfl, hM1, hF⟩; have h1 := h.drew.fr hF (by simp [hf]); have k0 := h1.cell 0 rfl; have k1 := h1.cell 1 rfl; have j8 := h1.cell 8 rfl; have f8 := h1.free 8; have h2 := h1.set 8 (.int .u64 (K0 C (p + 2) : Int)); have g0 := h2.cell 0 rfl; have g1 := h2.cell 1 rfl))
  have l5 := h2.cell 5 rfl
  have m5 := h2.free 5
  have h3 := h2.set 5 (actV 288 f)
  have F1 := (((Fr.refl [f] w1).setCell (p := ⟨f, 8, none⟩) (.int .u64 (K0 C (p + 2) : Int)) (.inl (by simp))).setCell (p := ⟨f, 5, none⟩) (actV 288 f) (.inl (by simp)))
  have hM4 := hM1.fr F1 (by simp; omega) (by simp; omega)
  have F := (hF.undrew.mono (O' := [f, m]) (by simp)).trans F1 (by simp)
  go_wp2
  go_end0
  exact ⟨rfl, h3, hM4, F⟩


/-- A look-up's last step: the version is what it was. -/
theorem atrusts_any (f m cb : Nat) (C : List Nat) (p key val ver got : Nat) (nx : Value) (ok : Bool) (w : World) (h : Blk w f (acells m p key val ver nx false ok got) 321) (hM : MemAt w m cb C)
    (hf : f ≠ m ∧ f ≠ cb) (hC : C.length = 768) (hp : p < C.length) (hb : ((K0 C p : Int) == (ver : Int)) = true) :
    Calls Tryz.prog 288 #[.pointer (some ⟨f, 0, none⟩)] w fun e w' => e = .returned (.tuple #[]) ∧
      Blk w' f (acells m p key val ver nx true true got) 321 ∧ MemAt w' m cb C ∧ Fr [f, m] w w' := by
  unfold acells at h
  have c0 := h.cell 0 rfl
  have c1 := h.cell 1 rfl
  have c4 := h.cell 4 rfl
  have hw0 : IntKind.i64.wrap (p : Int) = (p : Int) := IntWalk.i64_in _ (by omega)
  have hw1 : IntKind.i64.wrap ((p : Int) + 1) = (p : Int) + 1 := IntWalk.i64_in _ (by omega)
  have hw2 : IntKind.i64.wrap ((p : Int) + 2) = (p : Int) + 2 := IntWalk.i64_in _ (by omega)
  go_enter Tryz.func288, Tryz.ntmps288
  go_wp2_with fail
  go_region_held3 (fun w' => w'.cell? ⟨f, 0, none⟩ = some (.pointer (some ⟨m, 0, none⟩)) ∧ w'.cell? ⟨f, 1, none⟩ = some (.int .i64 (p : Int)) ∧ w'.cell? ⟨f, 4, none⟩ = some (.int .u64 (ver : Int))) (go_keep)
    ((go_at_call 177; refine (load_any m cb C _ _ (by exact hM) (by omega) (by omega)).mono ?_; rintro e w1 ⟨rfl, hM1, hF⟩; have h1 := h.drew.fr hF (by simp [hf]); have k0 := h1.cell 0 rfl; have k1 := h1.cell 1 rfl; have k4 := h1.cell 4 rfl; have j7 := h1.cell 7 rfl; have f7 := h1.free 7; have h2 := h1.set 7 (.bool true); have g0 := h2.cell 0 rfl; have g1 := h2.cell 1 rfl; have g4 := h2.cell 4 rfl))
  have l6 := h2.cell 6 rfl
  have m6 := h2.free 6
  have h3 := h2.set 6 (.bool true)
  have F1 := (((Fr.refl [f] w1).setCell (p := ⟨f, 7, none⟩) (.bool true) (.inl (by simp))).setCell (p := ⟨f, 6, none⟩) (.bool true) (.inl (by simp)))
  have hM4 := hM1.fr F1 (by simp; omega) (by simp; omega)
  have F := (hF.undrew.mono (O' := [f, m]) (by simp)).trans F1 (by simp)
  go_wp2
  go_end0
  exact ⟨rfl, h3, hM4, F⟩


/-- A writing's first step: the line's version. -/
theorem aopens_any (f m cb : Nat) (C : List Nat) (p key val ver got : Nat) (nx : Value) (ok : Bool) (w : World) (h : Blk w f (acells m p key val ver nx false ok got) 321) (hM : MemAt w m cb C)
    (hf : f ≠ m ∧ f ≠ cb) (hC : C.length = 768) (hp : p < C.length) (hv : K0 C p < 2 ^ 64) (he : K0 C p % 2 = 0) :
    Calls Tryz.prog 276 #[.pointer (some ⟨f, 0, none⟩)] w fun e w' => e = .returned (.tuple #[]) ∧
      Blk w' f (acells m p key val (K0 C p) (actV 282 f) false ok got) 321 ∧ MemAt w' m cb C ∧ Fr [f, m] w w' := by
  have e1 := and1 _ hv
  have e2 : ((K0 C p : Int) % 2 != 0) = false := by rw [show (K0 C p : Int) % 2 = 0 by omega]; rfl
  clear hv he
  unfold acells at h
  have c0 := h.cell 0 rfl
  have c1 := h.cell 1 rfl
  have hw0 : IntKind.i64.wrap (p : Int) = (p : Int) := IntWalk.i64_in _ (by omega)
  have hw1 : IntKind.i64.wrap ((p : Int) + 1) = (p : Int) + 1 := IntWalk.i64_in _ (by omega)
  have hw2 : IntKind.i64.wrap ((p : Int) + 2) = (p : Int) + 2 := IntWalk.i64_in _ (by omega)
  go_enter Tryz.func276, Tryz.ntmps276
  go_wp2_with fail
  go_region_held3 (fun w' => w'.cell? ⟨f, 0, none⟩ = some (.pointer (some ⟨m, 0, none⟩)) ∧ w'.cell? ⟨f, 1, none⟩ = some (.int .i64 (p : Int))) (go_keep)
    ((go_at_call 177; refine (load_any m cb C _ _ (by exact hM) (by omega) (by omega)).mono ?_; rintro e w1 ⟨rfl, hM1, hF⟩; have h1 := h.drew.fr hF (by simp [hf]); have k0 := h1.cell 0 rfl; have k1 := h1.cell 1 rfl; have j4 := h1.cell 4 rfl; have f4 := h1.free 4; have h2 := h1.set 4 (.int .u64 (K0 C p : Int)); have g0 := h2.cell 0 rfl; have g1 := h2.cell 1 rfl))
  have l5 := h2.cell 5 rfl
  have m5 := h2.free 5
  have h3 := h2.set 5 (actV 282 f)
  have l6 := h3.cell 6 rfl
  have m6 := h3.free 6
  have h4 := h3.set 6 (.bool false)
  have F1 := ((((Fr.refl [f] w1).setCell (p := ⟨f, 4, none⟩) (.int .u64 (K0 C p : Int)) (.inl (by simp))).setCell (p := ⟨f, 5, none⟩) (actV 282 f) (.inl (by simp))).setCell (p := ⟨f, 6, none⟩) (.bool false) (.inl (by simp)))
  have hM4 := hM1.fr F1 (by simp; omega) (by simp; omega)
  have F := (hF.undrew.mono (O' := [f, m]) (by simp)).trans F1 (by simp)
  go_wp2
  go_end0
  exact ⟨rfl, h4, hM4, F⟩


/-- A writing's second step: the line is locked. -/
theorem alocks_any (f m cb : Nat) (C : List Nat) (p key val ver got : Nat) (nx : Value) (ok : Bool) (w : World) (h : Blk w f (acells m p key val ver nx false ok got) 321) (hM : MemAt w m cb C)
    (hf : f ≠ m ∧ f ≠ cb) (hC : C.length = 768) (hp : p < C.length) (hv : ver < 2 ^ 64) (he : ver % 2 = 0) (hver : K0 C p = ver) :
    Calls Tryz.prog 282 #[.pointer (some ⟨f, 0, none⟩)] w fun e w' => e = .returned (.tuple #[]) ∧
      Blk w' f (acells m p key val ver (actV 285 f) false ok got) 321 ∧ MemAt w' m cb (C.set p (ver + 1)) ∧ Fr [f, m, cb] w w' := by
  have e1 := or1 _ hv he
  have HV := Lib.hid hver
  clear hv he hver
  unfold acells at h
  have s0 := h.cell 5 rfl
  have sf := h.free 5
  have hs := h.set 5 (actV 285 f)
  have FS : Fr [f] w (w.setCell ⟨f, 5, none⟩ (actV 285 f)) := (Fr.refl _ _).setCell _ (.inl (by simp))
  have hMs := hM.fr FS (by simp; omega) (by simp; omega)
  have d0 := hs.cell 0 rfl
  have d1 := hs.cell 1 rfl
  have d4 := hs.cell 4 rfl
  have hw0 : IntKind.i64.wrap (p : Int) = (p : Int) := IntWalk.i64_in _ (by omega)
  have hw1 : IntKind.i64.wrap ((p : Int) + 1) = (p : Int) + 1 := IntWalk.i64_in _ (by omega)
  have hw2 : IntKind.i64.wrap ((p : Int) + 2) = (p : Int) + 2 := IntWalk.i64_in _ (by omega)
  go_enter Tryz.func282, Tryz.ntmps282
  go_wp2_with fail
  go_region_held3 (fun w' => w'.cell? ⟨f, 0, none⟩ = some (.pointer (some ⟨m, 0, none⟩)) ∧ w'.cell? ⟨f, 1, none⟩ = some (.int .i64 (p : Int)) ∧ w'.cell? ⟨f, 4, none⟩ = some (.int .u64 (ver : Int))) (go_keep)
    ((go_at_call 178; refine (cas_hit m cb C _ ver (ver + 1) _ (by exact hMs) (by omega) (by omega) (by simpa using HV.out)).mono ?_; rintro e w1 ⟨rfl, hM1, hF⟩; have h1 := hs.drew.fr hF (by simp [hf]); have k0 := h1.cell 0 rfl; have k1 := h1.cell 1 rfl; have k4 := h1.cell 4 rfl; have j6 := h1.cell 6 rfl; have f6 := h1.free 6; have h2 := h1.set 6 (.bool false); have g0 := h2.cell 0 rfl; have g1 := h2.cell 1 rfl; have g4 := h2.cell 4 rfl))
  have F1 := ((Fr.refl [f] w1).setCell (p := ⟨f, 6, none⟩) (.bool false) (.inl (by simp)))
  have hM4 := hM1.fr F1 (by simp; omega) (by simp; omega)
  have F := (((FS.mono (O' := [f, m, cb]) (by simp)).trans hF.undrew (by simp)).mono (O' := [f, m, cb]) (by simp)).trans F1 (by simp)
  go_wp2
  go_end0
  exact ⟨rfl, h2, hM4, F⟩


/-- A writing's third step: the key. -/
theorem akeys_any (f m cb : Nat) (C : List Nat) (p key val ver got : Nat) (nx : Value) (ok : Bool) (w : World) (h : Blk w f (acells m p key val ver nx false ok got) 321) (hM : MemAt w m cb C)
    (hf : f ≠ m ∧ f ≠ cb) (hC : C.length = 768) (hp : p + 1 < C.length) :
    Calls Tryz.prog 285 #[.pointer (some ⟨f, 0, none⟩)] w fun e w' => e = .returned (.tuple #[]) ∧
      Blk w' f (acells m p key val ver (actV 290 f) false ok got) 321 ∧ MemAt w' m cb (C.set (p + 1) key) ∧ Fr [f, m, cb] w w' := by
  unfold acells at h
  have c0 := h.cell 0 rfl
  have c1 := h.cell 1 rfl
  have c2 := h.cell 2 rfl
  have hw0 : IntKind.i64.wrap (p : Int) = (p : Int) := IntWalk.i64_in _ (by omega)
  have hw1 : IntKind.i64.wrap ((p : Int) + 1) = (p : Int) + 1 := IntWalk.i64_in _ (by omega)
  have hw2 : IntKind.i64.wrap ((p : Int) + 2) = (p : Int) + 2 := IntWalk.i64_in _ (by omega)
  go_enter Tryz.func285, Tryz.ntmps285
  go_wp2_with fail
  go_region_held3 (fun w' => w'.cell? ⟨f, 0, none⟩ = some (.pointer (some ⟨m, 0, none⟩)) ∧ w'.cell? ⟨f, 1, none⟩ = some (.int .i64 (p : Int)) ∧ w'.cell? ⟨f, 2, none⟩ = some (.int .u64 (key : Int))) (go_keep)
    ((go_at_call 289; refine (store_any m cb C _ key _ (by exact hM) (by omega) (by omega)).mono ?_; rintro e w1 ⟨rfl, hM1, hF⟩; have h1 := h.drew.fr hF (by simp [hf]); have k0 := h1.cell 0 rfl; have k1 := h1.cell 1 rfl; have k2 := h1.cell 2 rfl; have j5 := h1.cell 5 rfl; have f5 := h1.free 5))
  have h2 := h1.set 5 (actV 290 f)
  have F1 := ((Fr.refl [f] w1).setCell (p := ⟨f, 5, none⟩) (actV 290 f) (.inl (by simp)))
  have hM4 := hM1.fr F1 (by simp; omega) (by simp; omega)
  have F := (hF.undrew.mono (O' := [f, m, cb]) (by simp)).trans F1 (by simp)
  go_wp2
  go_end0
  exact ⟨rfl, h2, hM4, F⟩


/-- A writing's fourth step: the value. -/
theorem avals_any (f m cb : Nat) (C : List Nat) (p key val ver got : Nat) (nx : Value) (ok : Bool) (w : World) (h : Blk w f (acells m p key val ver nx false ok got) 321) (hM : MemAt w m cb C)
    (hf : f ≠ m ∧ f ≠ cb) (hC : C.length = 768) (hp : p + 2 < C.length) :
    Calls Tryz.prog 290 #[.pointer (some ⟨f, 0, none⟩)] w fun e w' => e = .returned (.tuple #[]) ∧
      Blk w' f (acells m p key val ver (actV 294 f) false ok got) 321 ∧ MemAt w' m cb (C.set (p + 2) val) ∧ Fr [f, m, cb] w w' := by
  unfold acells at h
  have c0 := h.cell 0 rfl
  have c1 := h.cell 1 rfl
  have c3 := h.cell 3 rfl
  have hw0 : IntKind.i64.wrap (p : Int) = (p : Int) := IntWalk.i64_in _ (by omega)
  have hw1 : IntKind.i64.wrap ((p : Int) + 1) = (p : Int) + 1 := IntWalk.i64_in _ (by omega)
  have hw2 : IntKind.i64.wrap ((p : Int) + 2) = (p : Int) + 2 := IntWalk.i64_in _ (by omega)
  go_enter Tryz.func290, Tryz.ntmps290
  go_wp2_with fail
  go_region_held3 (fun w' => w'.cell? ⟨f, 0, none⟩ = some (.pointer (some ⟨m, 0, none⟩)) ∧ w'.cell? ⟨f, 1, none⟩ = some (.int .i64 (p : Int)) ∧ w'.cell? ⟨f, 3, none⟩ = some (.int .u64 (val : Int))) (go_keep)
    ((go_at_call 289; refine (store_any m cb C _ val _ (by exact hM) (by omega) (by omega)).mono ?_; rintro e w1 ⟨rfl, hM1, hF⟩; have h1 := h.drew.fr hF (by simp [hf]); have k0 := h1.cell 0 rfl; have k1 := h1.cell 1 rfl; have k3 := h1.cell 3 rfl; have j5 := h1.cell 5 rfl; have f5 := h1.free 5))
  have h2 := h1.set 5 (actV 294 f)
  have F1 := ((Fr.refl [f] w1).setCell (p := ⟨f, 5, none⟩) (actV 294 f) (.inl (by simp)))
  have hM4 := hM1.fr F1 (by simp; omega) (by simp; omega)
  have F := (hF.undrew.mono (O' := [f, m, cb]) (by simp)).trans F1 (by simp)
  go_wp2
  go_end0
  exact ⟨rfl, h2, hM4, F⟩


/-- A writing's last step: the line is free, in a later version. -/
theorem aopensAgain_any (f m cb : Nat) (C : List Nat) (p key val ver got : Nat) (nx : Value) (ok : Bool) (w : World) (h : Blk w f (acells m p key val ver nx false ok got) 321) (hM : MemAt w m cb C)
    (hf : f ≠ m ∧ f ≠ cb) (hC : C.length = 768) (hp : p < C.length) (hv : ver < 2 ^ 64) :
    Calls Tryz.prog 294 #[.pointer (some ⟨f, 0, none⟩)] w fun e w' => e = .returned (.tuple #[]) ∧
      Blk w' f (acells m p key val ver nx true ok got) 321 ∧ MemAt w' m cb (C.set p (verF ver)) ∧ Fr [f, m, cb] w w' := by
  have e1 := or2 _ hv
  clear hv
  unfold acells at h
  have c0 := h.cell 0 rfl
  have c1 := h.cell 1 rfl
  have c4 := h.cell 4 rfl
  have hw0 : IntKind.i64.wrap (p : Int) = (p : Int) := IntWalk.i64_in _ (by omega)
  have hw1 : IntKind.i64.wrap ((p : Int) + 1) = (p : Int) + 1 := IntWalk.i64_in _ (by omega)
  have hw2 : IntKind.i64.wrap ((p : Int) + 2) = (p : Int) + 2 := IntWalk.i64_in _ (by omega)
  go_enter Tryz.func294, Tryz.ntmps294
  go_wp2_with fail
  go_region_held3 (fun w' => w'.cell? ⟨f, 0, none⟩ = some (.pointer (some ⟨m, 0, none⟩)) ∧ w'.cell? ⟨f, 1, none⟩ = some (.int .i64 (p : Int)) ∧ w'.cell? ⟨f, 4, none⟩ = some (.int .u64 (ver : Int))) (go_keep)
    ((go_at_call 289; refine (store_any m cb C _ (verF ver) _ (by exact hM) (by omega) (by omega)).mono ?_; rintro e w1 ⟨rfl, hM1, hF⟩; have h1 := h.drew.fr hF (by simp [hf]); have k0 := h1.cell 0 rfl; have k1 := h1.cell 1 rfl; have k4 := h1.cell 4 rfl; have j6 := h1.cell 6 rfl; have f6 := h1.free 6))
  have h2 := h1.set 6 (.bool true)
  have F1 := ((Fr.refl [f] w1).setCell (p := ⟨f, 6, none⟩) (.bool true) (.inl (by simp)))
  have hM4 := hM1.fr F1 (by simp; omega) (by simp; omega)
  have F := (hF.undrew.mono (O' := [f, m, cb]) (by simp)).trans F1 (by simp)
  go_wp2
  go_end0
  exact ⟨rfl, h2, hM4, F⟩


end Go.Proofs.YtiojnjihbidbiaaGreat

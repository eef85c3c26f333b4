/- Package cache, walked, its first part: the steps of a look-up. -/
import Derived.Test.YtiojnjihbidbiaaGreatBaseB
namespace Go.Proofs.YtiojnjihbidbiaaGreat
open Go.RowKit
attribute [local go_sem ↓] Go.wp_at_zero Go.wp_at_succ
set_option linter.unusedVariables false

/-- c is a cache of 256 lines over the whole memory m. -/
def CacheAt (w : World) (c m cb : Nat) (C : List Nat) : Prop :=
  Blk w c #[.pointer (some ⟨m, 0, none⟩), .int .i64 0, .int .i64 256] 208 ∧ MemAt w m cb C ∧ c ≠ m ∧ c ≠ cb ∧ C.length = 768

theorem CacheAt.fr {O : List Nat} {w w' : World} {t m cb : Nat} {K : List Nat} (h : CacheAt w t m cb K) (f : Fr O w w') (h0 : t ∉ O) (h1 : m ∉ O) (h2 : cb ∉ O) : CacheAt w' t m cb K :=
  ⟨h.1.fr f h0, h.2.1.fr f h1 h2, h.2.2⟩
theorem CacheAt.lt {w : World} {t m cb : Nat} {K : List Nat} (h : CacheAt w t m cb K) : t < w.heap.size ∧ m < w.heap.size ∧ cb < w.heap.size := ⟨h.1.lt, h.2.1.lt⟩

/-- An act's cells. -/
def acells (m at_ key val ver : Nat) (next : Value) (done ok : Bool) (got : Nat) : Array Value :=
  #[.pointer (some ⟨m, 0, none⟩), .int .i64 (at_ : Int), .int .u64 (key : Int), .int .u64 (val : Int), .int .u64 (ver : Int), next, .bool done, .bool ok, .int .u64 (got : Int)]

abbrev actV (k f : Nat) : Value := .func (.func k) #[.pointer (some ⟨f, 0, none⟩)] #[]

theorem and3 (v : Nat) (h : v < 2 ^ 64) : bits BinOp.and IntKind.u64 (v : Int) 3 = (v : Int) % 4 := by
  have := u64_and_nat v 3 (by omega) (by omega)
  rw [show ((3 : Nat) : Int) = 3 from rfl] at this
  rw [this, show (3 : Nat) = 2 ^ 2 - 1 from rfl, Nat.and_two_pow_sub_one_eq_mod]
  rfl
theorem and1 (v : Nat) (h : v < 2 ^ 64) : bits BinOp.and IntKind.u64 (v : Int) 1 = (v : Int) % 2 := by
  have := u64_and_nat v 1 (by omega) (by omega)
  rw [show ((1 : Nat) : Int) = 1 from rfl] at this
  rw [this, show (1 : Nat) = 2 ^ 1 - 1 from rfl, Nat.and_two_pow_sub_one_eq_mod]
  rfl

/-- A look-up's first step: the line's version. -/
theorem alooks_any (f m cb : Nat) (C : List Nat) (p key val ver got : Nat) (nx : Value) (ok : Bool) (w : World) (h : Blk w f (acells m p key val ver nx false ok got) 321) (hM : MemAt w m cb C)
    (hf : f ≠ m ∧ f ≠ cb) (hp : p < C.length) (hv : K0 C p < 2 ^ 64) (hC : C.length = 768) (b : Bool) (hb : ((K0 C p : Int) % 4 != 2) = b) :
    Calls Tryz.prog 275 #[.pointer (some ⟨f, 0, none⟩)] w fun e w' => e = .returned (.tuple #[]) ∧
      Blk w' f (acells m p key val (K0 C p) (actV 281 f) b ok got) 321 ∧ MemAt w' m cb C ∧ Fr [f, m] w w' := by
  have e3 := and3 _ hv
  clear hv
  unfold acells at h
  have c0 := h.cell 0 rfl
  have c1 := h.cell 1 rfl
  have hw : IntKind.i64.wrap (p : Int) = (p : Int) := IntWalk.i64_in _ (by omega)
  go_enter Tryz.func275, Tryz.ntmps275
  go_wp2_with fail
  go_region_held3 (fun w' => w'.cell? ⟨f, 0, none⟩ = some (.pointer (some ⟨m, 0, none⟩)) ∧ w'.cell? ⟨f, 1, none⟩ = some (.int .i64 (p : Int))) (go_keep)
    ((go_at_call 177; refine (load_any m cb C _ _ (by exact hM) (by omega) (by omega)).mono ?_; rintro e w1 ⟨rfl, hM1, hF⟩; have h1 := h.drew.fr hF (by simp [hf]); have k0 := h1.cell 0 rfl; have k1 := h1.cell 1 rfl; have k4 := h1.cell 4 rfl; have f4 := h1.free 4; have h2 := h1.set 4 (.int .u64 (K0 C p : Int)); have g0 := h2.cell 0 rfl; have g1 := h2.cell 1 rfl))
  have k5 := h2.cell 5 rfl
  have f5 := h2.free 5
  have h3 := h2.set 5 (actV 281 f)
  have k6 := h3.cell 6 rfl
  have k4' := h3.cell 4 rfl
  have f6 := h3.free 6
  have h4 := h3.set 6 (.bool b)
  have F := (((hF.undrew.mono (O' := [f, m]) (by simp)).setCell (p := ⟨f, 4, none⟩) (.int .u64 (K0 C p : Int)) (.inl (by simp))).setCell (p := ⟨f, 5, none⟩) (actV 281 f) (.inl (by simp))).setCell (p := ⟨f, 6, none⟩) (.bool b) (.inl (by simp))
  have F1 := (((Fr.refl [f] w1).setCell (p := ⟨f, 4, none⟩) (.int .u64 (K0 C p : Int)) (.inl (by simp))).setCell (p := ⟨f, 5, none⟩) (actV 281 f) (.inl (by simp))).setCell (p := ⟨f, 6, none⟩) (.bool b) (.inl (by simp))
  have hM4 := hM1.fr F1 (by simp; omega) (by simp; omega)
  clear c0 c1
  go_wp2
  go_end0
  exact ⟨rfl, h4, hM4, F⟩
end Go.Proofs.YtiojnjihbidbiaaGreat
/- Package cache, walked, its second part: the other steps of a look-up and of a writing. -/
namespace Go.Proofs.YtiojnjihbidbiaaGreat
open Go.RowKit
attribute [local go_sem ↓] Go.wp_at_zero Go.wp_at_succ
set_option linter.unusedVariables false

theorem load_at (m cb : Nat) (K : List Nat) (i : Int) (n : Nat) (w : World) (h : MemAt w m cb K) (hi0 : i = n) (hi : n < K.length) :
    Calls Tryz.prog 177 #[.pointer (some ⟨m, 0, none⟩), .int .i64 i] w fun e w' => e = .returned (.int .u64 (K0 K n : Nat)) ∧ MemAt w' m cb K ∧ Fr [m] w w' := by
  subst hi0
  exact load_any m cb K n w h (by omega) (by omega)

theorem or1 (v : Nat) (h : v < 2 ^ 64) (he : v % 2 = 0) : bits BinOp.or IntKind.u64 (v : Int) 1 = ((v + 1 : Nat) : Int) := by
  have := or_sum 1 (v / 2) 1 (X := (v : Int)) (Y := 1) (by omega) (by omega) (by omega) (by omega) (by omega)
  rw [this]; omega
/-- The version that a line bears when it has been written. -/
def verF (v : Nat) : Nat := ((v ||| 2) + 4) % 2 ^ 64
theorem or2 (v : Nat) (h : v < 2 ^ 64) : IntKind.u64.wrap (bits BinOp.or IntKind.u64 (v : Int) 2 + 4) = ((verF v : Nat) : Int) := by
  have := u64_or_nat v 2 (by omega) (by omega)
  rw [show ((2 : Nat) : Int) = 2 from rfl] at this
  rw [this, IntKind.wrap_u64]
  unfold verF
  omega
theorem verF_mod (v : Nat) (he : v % 2 = 0) : verF v % 4 = 2 ∧ verF v < 2 ^ 64 := by
  have h1 : (v ||| 2) % 4 = 2 := by
    have e : (v ||| 2) % 2 ^ 2 = (v % 2 ^ 2 ||| 2 % 2 ^ 2) := Nat.or_mod_two_pow
    have hv : v % 4 = 0 ∨ v % 4 = 2 := by omega
    rcases hv with hv | hv
    · rw [show (4 : Nat) = 2 ^ 2 from rfl, e, show v % 2 ^ 2 = 0 from hv]; rfl
    · rw [show (4 : Nat) = 2 ^ 2 from rfl, e, show v % 2 ^ 2 = 2 from hv]; rfl
  unfold verF
  omega


/-- A look-up's second step: the line's key. -/
theorem acompares_any (f m cb : Nat) (C : List Nat) (p key val ver got : Nat) (nx : Value) (ok : Bool) (w : World) (h : Blk w f (acells m p key val ver nx false ok got) 321) (hM : MemAt w m cb C)
    (hf : f ≠ m ∧ f ≠ cb) (hC : C.length = 768) (hp : p + 1 < C.length) (b : Bool) (hb : ((K0 C (p + 1) : Int) != (key : Int)) = b) :
    Calls Tryz.prog 281 #[.pointer (some ⟨f, 0, none⟩)] w fun e w' => e = .returned (.tuple #[]) ∧
      Blk w' f (acells m p key val ver (actV 284 f) b ok got) 321 ∧ MemAt w' m cb C ∧ Fr [f, m] w w' := by
  unfold acells at h
  have c0 := h.cell 0 rfl
  have c1 := h.cell 1 rfl
  have c2 := h.cell 2 rfl
  have hw0 : IntKind.i64.wrap (p : Int) = (p : Int) := IntWalk.i64_in _ (by omega)
  have hw1 : IntKind.i64.wrap ((p : Int) + 1) = (p : Int) + 1 := IntWalk.i64_in _ (by omega)
  have hw2 : IntKind.i64.wrap ((p : Int) + 2) = (p : Int) + 2 := IntWalk.i64_in _ (by omega)
  go_enter Tryz.func281, Tryz.ntmps281
  go_wp2_with fail
  go_region_held3 (fun w' => w'.cell? ⟨f, 0, none⟩ = some (.pointer (some ⟨m, 0, none⟩)) ∧ w'.cell? ⟨f, 1, none⟩ = some (.int .i64 (p : Int)) ∧ w'.cell? ⟨f, 2, none⟩ = some (.int .u64 (key : Int))) (go_keep)
    ((go_at_call 177; refine (load_any m cb C _ _ (by exact hM) (by omega) (by omega)).mono ?_; rintro e w1 ⟨rfl, hM1, hF⟩; have h1 := h.drew.fr hF (by simp [hf]); have k0 := h1.cell 0 rfl; have k1 := h1.cell 1 rfl; have k2 := h1.cell 2 rfl; have j6 := h1.cell 6 rfl; have f6 := h1.free 6; have h2 := h1.set 6 (.bool b); have g0 := h2.cell 0 rfl; have g1 := h2.cell 1 rfl; have g2 := h2.cell 2 rfl))
  have l5 := h2.cell 5 rfl
  have m5 := h2.free 5
  have h3 := h2.set 5 (actV 284 f)
  have F1 := (((Fr.refl [f] w1).setCell (p := ⟨f, 6, none⟩) (.bool b) (.inl (by simp))).setCell (p := ⟨f, 5, none⟩) (actV 284 f) (.inl (by simp)))
  have hM4 := hM1.fr F1 (by simp; omega) (by simp; omega)
  have F := (hF.undrew.mono (O' := [f, m]) (by simp)).trans F1 (by simp)
  go_wp2
  go_end0
  exact ⟨rfl, h3, hM4, F⟩


/-- A look-up's third step: the line's value. -/
theorem areads_any (f m cb : Nat) (C : List Nat) (p key val ver got : Nat) (nx : Value) (ok : Bool) (w : World) (h : Blk w f (acells m p key val ver nx false ok got) 321) (hM : MemAt w m cb C)
    (hf : f ≠ m ∧ f ≠ cb) (hC : C.length = 768) (hp : p + 2 < C.length) :
    Calls Tryz.prog 284 #[.pointer (some ⟨f, 0, none⟩)] w fun e w' => e = .returned (.tuple #[]) ∧
      Blk w' f (acells m p key val ver (actV 288 f) false ok (K0 C (p + 2))) 321 ∧ MemAt w' m cb C ∧ Fr [f, m] w w' := by
  unfold acells at h
  have c0 := h.cell 0 rfl
  have c1 := h.cell 1 rfl
  have hw0 : IntKind.i64.wrap (p : Int) = (p : Int) := IntWalk.i64_in _ (by omega)
  have hw1 : IntKind.i64.wrap ((p : Int) + 1) = (p : Int) + 1 := IntWalk.i64_in _ (by omega)
  have hw2 : IntKind.i64.wrap ((p : Int) + 2) = (p : Int) + 2 := IntWalk.i64_in _ (by omega)
  go_enter Tryz.func284, Tryz.ntmps284
  go_wp2_with fail
  go_region_held3 (fun w' => w'.cell? ⟨f, 0, none⟩ = some (.pointer (some ⟨m, 0, none⟩)) ∧ w'.cell? ⟨f, 1, none⟩ = some (.int .i64 (p : Int))) (go_keep)
    ((go_at_call 177; refine (load_at m cb C _ (p + 2) _ (by exact hM) (by omega) (by omega)).mono ?_; rintro e w1 ⟨rfl, hM1, hF⟩; have h1 := h.drew.fr hF (by simp [hf]); have k0 := h1.cell 0 rfl; have k1 := h1.cell 1 rfl; have j8 := h1.cell 8 rfl; have f8 := h1.free 8; have h2 := h1.set 8 (.int .u64 (K0 C (p + 2) : Int)); have g0 := h2.cell 0 rfl; have g1 := h2.cell 1 rfl))
  have l5 := h2.cell 5 rfl
  have m5 := h2.free 5
  have h3 := h2.set 5 (actV 288 f)
  have F1 := (((Fr.refl [f] w1).setCell (p := ⟨f, 8, none⟩) (.int .u64 (K0 C (p + 2) : Int)) (.inl (by simp))).setCell (p := ⟨f, 5, none⟩) (actV 288 f) (.inl (by simp)))
  have hM4 := hM1.fr F1 (by simp; omega) (by simp; omega)
  have F := (hF.undrew.mono (O' := [f, m]) (by simp)).trans F1 (by simp)
  go_wp2
  go_end0
  exact ⟨rfl, h3, hM4, F⟩


/-- A look-up's last step: the version is what it was. -/
theorem atrusts_any (f m cb : Nat) (C : List Nat) (p key val ver got : Nat) (nx : Value) (ok : Bool) (w : World) (h : Blk w f (acells m p key val ver nx false ok got) 321) (hM : MemAt w m cb C)
    (hf : f ≠ m ∧ f ≠ cb) (hC : C.length = 768) (hp : p < C.length) (hb : ((K0 C p : Int) == (ver : Int)) = true) :
    Calls Tryz.prog 288 #[.pointer (some ⟨f, 0, none⟩)] w fun e w' => e = .returned (.tuple #[]) ∧
      Blk w' f (acells m p key val ver nx true true got) 321 ∧ MemAt w' m cb C ∧ Fr [f, m] w w' := by
  unfold acells at h
  have c0 := h.cell 0 rfl
  have c1 := h.cell 1 rfl
  have c4 := h.cell 4 rfl
  have hw0 : IntKind.i64.wrap (p : Int) = (p : Int) := IntWalk.i64_in _ (by omega)
  have hw1 : IntKind.i64.wrap ((p : Int) + 1) = (p : Int) + 1 := IntWalk.i64_in _ (by omega)
  have hw2 : IntKind.i64.wrap ((p : Int) + 2) = (p : Int) + 2 := IntWalk.i64_in _ (by omega)
  go_enter Tryz.func288, Tryz.ntmps288
  go_wp2_with fail
  go_region_held3 (fun w' => w'.cell? ⟨f, 0, none⟩ = some (.pointer (some ⟨m, 0, none⟩)) ∧ w'.cell? ⟨f, 1, none⟩ = some (.int .i64 (p : Int)) ∧ w'.cell? ⟨f, 4, none⟩ = some (.int .u64 (ver : Int))) (go_keep)
    ((go_at_call 177; refine (load_any m cb C _ _ (by exact hM) (by omega) (by omega)).mono ?_; rintro e w1 ⟨rfl, hM1, hF⟩; have h1 := h.drew.fr hF (by simp [hf]); have k0 := h1.cell 0 rfl; have k1 := h1.cell 1 rfl; have k4 := h1.cell 4 rfl; have j7 := h1.cell 7 rfl; have f7 := h1.free 7; have h2 := h1.set 7 (.bool true); have g0 := h2.cell 0 rfl; have g1 := h2.cell 1 rfl; have g4 := h2.cell 4 rfl))
  have l6 := h2.cell 6 rfl
  have m6 := h2.free 6
  have h3 := h2.set 6 (.bool true)
  have F1 := (((Fr.refl [f] w1).setCell (p := ⟨f, 7, none⟩) (.bool true) (.inl (by simp))).setCell (p := ⟨f, 6, none⟩) (.bool true) (.inl (by simp)))
  have hM4 := hM1.fr F1 (by simp; omega) (by simp; omega)
  have F := (hF.undrew.mono (O' := [f, m]) (by simp)).trans F1 (by simp)
  go_wp2
  go_end0
  exact ⟨rfl, h3, hM4, F⟩


/-- A writing's first step: the line's version. -/
theorem aopens_any (f m cb : Nat) (C : List Nat) (p key val ver got : Nat) (nx : Value) (ok : Bool) (w : World) (h : Blk w f (acells m p key val ver nx false ok got) 321) (hM : MemAt w m cb C)
    (hf : f ≠ m ∧ f ≠ cb) (hC : C.length = 768) (hp : p < C.length) (hv : K0 C p < 2 ^ 64) (he : K0 C p % 2 = 0) :
    Calls Tryz.prog 276 #[.pointer (some ⟨f, 0, none⟩)] w fun e w' => e = .returned (.tuple #[]) ∧
      Blk w' f (acells m p key val (K0 C p) (actV 282 f) false ok got) 321 ∧ MemAt w' m cb C ∧ Fr [f, m] w w' := by
  have e1 := and1 _ hv
  have e2 : ((K0 C p : Int) % 2 != 0) = false := by rw [show (K0 C p : Int) % 2 = 0 by omega]; rfl
  clear hv he
  unfold acells at h
  have c0 := h.cell 0 rfl
  have c1 := h.cell 1 rfl
  have hw0 : IntKind.i64.wrap (p : Int) = (p : Int) := IntWalk.i64_in _ (by omega)
  have hw1 : IntKind.i64.wrap ((p : Int) + 1) = (p : Int) + 1 := IntWalk.i64_in _ (by omega)
  have hw2 : IntKind.i64.wrap ((p : Int) + 2) = (p : Int) + 2 := IntWalk.i64_in _ (by omega)
  go_enter Tryz.func276, Tryz.ntmps276
  go_wp2_with fail
  go_region_held3 (fun w' => w'.cell? ⟨f, 0, none⟩ = some (.pointer (some ⟨m, 0, none⟩)) ∧ w'.cell? ⟨f, 1, none⟩ = some (.int .i64 (p : Int))) (go_keep)
    ((go_at_call 177; refine (load_any m cb C _ _ (by exact hM) (by omega) (by omega)).mono ?_; rintro e w1 ⟨rfl, hM1, hF⟩; have h1 := h.drew.fr hF (by simp [hf]); have k0 := h1.cell 0 rfl; have k1 := h1.cell 1 rfl; have j4 := h1.cell 4 rfl; have f4 := h1.free 4; have h2 := h1.set 4 (.int .u64 (K0 C p : Int)); have g0 := h2.cell 0 rfl; have g1 := h2.cell 1 rfl))
  have l5 := h2.cell 5 rfl
  have m5 := h2.free 5
  have h3 := h2.set 5 (actV 282 f)
  have l6 := h3.cell 6 rfl
  have m6 := h3.free 6
  have h4 := h3.set 6 (.bool false)
  have F1 := ((((Fr.refl [f] w1).setCell (p := ⟨f, 4, none⟩) (.int .u64 (K0 C p : Int)) (.inl (by simp))).setCell (p := ⟨f, 5, none⟩) (actV 282 f) (.inl (by simp))).setCell (p := ⟨f, 6, none⟩) (.bool false) (.inl (by simp)))
  have hM4 := hM1.fr F1 (by simp; omega) (by simp; omega)
  have F := (hF.undrew.mono (O' := [f, m]) (by simp)).trans F1 (by simp)
  go_wp2
  go_end0
  exact ⟨rfl, h4, hM4, F⟩


/-- A writing's second step: the line is locked. -/
theorem alocks_any (f m cb : Nat) (C : List Nat) (p key val ver got : Nat) (nx : Value) (ok : Bool) (w : World) (h : Blk w f (acells m p key val ver nx false ok got) 321) (hM : MemAt w m cb C)
    (hf : f ≠ m ∧ f ≠ cb) (hC : C.length = 768) (hp : p < C.length) (hv : ver < 2 ^ 64) (he : ver % 2 = 0) (hver : K0 C p = ver) :
    Calls Tryz.prog 282 #[.pointer (some ⟨f, 0, none⟩)] w fun e w' => e = .returned (.tuple #[]) ∧
      Blk w' f (acells m p key val ver (actV 285 f) false ok got) 321 ∧ MemAt w' m cb (C.set p (ver + 1)) ∧ Fr [f, m, cb] w w' := by
  have e1 := or1 _ hv he
  have HV := Lib.hid hver
  clear hv he hver
  unfold acells at h
  have s0 := h.cell 5 rfl
  have sf := h.free 5
  have hs := h.set 5 (actV 285 f)
  have FS : Fr [f] w (w.setCell ⟨f, 5, none⟩ (actV 285 f)) := (Fr.refl _ _).setCell _ (.inl (by simp))
  have hMs := hM.fr FS (by simp; omega) (by simp; omega)
  have d0 := hs.cell 0 rfl
  have d1 := hs.cell 1 rfl
  have d4 := hs.cell 4 rfl
  have hw0 : IntKind.i64.wrap (p : Int) = (p : Int) := IntWalk.i64_in _ (by omega)
  have hw1 : IntKind.i64.wrap ((p : Int) + 1) = (p : Int) + 1 := IntWalk.i64_in _ (by omega)
  have hw2 : IntKind.i64.wrap ((p : Int) + 2) = (p : Int) + 2 := IntWalk.i64_in _ (by omega)
  go_enter Tryz.func282, Tryz.ntmps282
  go_wp2_with fail
  go_region_held3 (fun w' => w'.cell? ⟨f, 0, none⟩ = some (.pointer (some ⟨m, 0, none⟩)) ∧ w'.cell? ⟨f, 1, none⟩ = some (.int .i64 (p : Int)) ∧ w'.cell? ⟨f, 4, none⟩ = some (.int .u64 (ver : Int))) (go_keep)
    ((go_at_call 178; refine (cas_hit m cb C _ ver (ver + 1) _ (by exact hMs) (by omega) (by omega) (by simpa using HV.out)).mono ?_; rintro e w1 ⟨rfl, hM1, hF⟩; have h1 := hs.drew.fr hF (by simp [hf]); have k0 := h1.cell 0 rfl; have k1 := h1.cell 1 rfl; have k4 := h1.cell 4 rfl; have j6 := h1.cell 6 rfl; have f6 := h1.free 6; have h2 := h1.set 6 (.bool false); have g0 := h2.cell 0 rfl; have g1 := h2.cell 1 rfl; have g4 := h2.cell 4 rfl))
  have F1 := ((Fr.refl [f] w1).setCell (p := ⟨f, 6, none⟩) (.bool false) (.inl (by simp)))
  have hM4 := hM1.fr F1 (by simp; omega) (by simp; omega)
  have F := (((FS.mono (O' := [f, m, cb]) (by simp)).trans hF.undrew (by simp)).mono (O' := [f, m, cb]) (by simp)).trans F1 (by simp)
  go_wp2
  go_end0
  exact ⟨rfl, h2, hM4, F⟩


/-- A writing's third step: the key. -/
theorem akeys_any (f m cb : Nat) (C : List Nat) (p key val ver got : Nat) (nx : Value) (ok : Bool) (w : World) (h : Blk w f (acells m p key val ver nx false ok got) 321) (hM : MemAt w m cb C)
    (hf : f ≠ m ∧ f ≠ cb) (hC : C.length = 768) (hp : p + 1 < C.length) :
    Calls Tryz.prog 285 #[.pointer (some ⟨f, 0, none⟩)] w fun e w' => e = .returned (.tuple #[]) ∧
      Blk w' f (acells m p key val ver (actV 290 f) false ok got) 321 ∧ MemAt w' m cb (C.set (p + 1) key) ∧ Fr [f, m, cb] w w' := by
  unfold acells at h
  have c0 := h.cell 0 rfl
  have c1 := h.cell 1 rfl
  have c2 := h.cell 2 rfl
  have hw0 : IntKind.i64.wrap (p : Int) = (p : Int) := IntWalk.i64_in _ (by omega)
  have hw1 : IntKind.i64.wrap ((p : Int) + 1) = (p : Int) + 1 := IntWalk.i64_in _ (by omega)
  have hw2 : IntKind.i64.wrap ((p : Int) + 2) = (p : Int) + 2 := IntWalk.i64_in _ (by omega)
  go_enter Tryz.func285, Tryz.ntmps285
  go_wp2_with fail
  go_region_held3 (fun w' => w'.cell? ⟨f, 0, none⟩ = some (.pointer (some ⟨m, 0, none⟩)) ∧ w'.cell? ⟨f, 1, none⟩ = some (.int .i64 (p : Int)) ∧ w'.cell? ⟨f, 2, none⟩ = some (.int .u64 (key : Int))) (go_keep)
    ((go_at_call 289; refine (store_any m cb C _ key _ (by exact hM) (by omega) (by omega)).mono ?_; rintro e w1 ⟨rfl, hM1, hF⟩; have h1 := h.drew.fr hF (by simp [hf]); have k0 := h1.cell 0 rfl; have k1 := h1.cell 1 rfl; have k2 := h1.cell 2 rfl; have j5 := h1.cell 5 rfl; have f5 := h1.free 5))
  have h2 := h1.set 5 (actV 290 f)
  have F1 := ((Fr.refl [f] w1).setCell (p := ⟨f, 5, none⟩) (actV 290 f) (.inl (by simp)))
  have hM4 := hM1.fr F1 (by simp; omega) (by simp; omega)
  have F := (hF.undrew.mono (O' := [f, m, cb]) (by simp)).trans F1 (by simp)
  go_wp2
  go_end0
  exact ⟨rfl, h2, hM4, F⟩


/-- A writing's fourth step: the value. -/
theorem avals_any (f m cb : Nat) (C : List Nat) (p key val ver got : Nat) (nx : Value) (ok : Bool) (w : World) (h : Blk w f (acells m p key val ver nx false ok got) 321) (hM : MemAt w m cb C)
    (hf : f ≠ m ∧ f ≠ cb) (hC : C.length = 768) (hp : p + 2 < C.length) :
    Calls Tryz.prog 290 #[.pointer (some ⟨f, 0, none⟩)] w fun e w' => e = .returned (.tuple #[]) ∧
      Blk w' f (acells m p key val ver (actV 294 f) false ok got) 321 ∧ MemAt w' m cb (C.set (p + 2) val) ∧ Fr [f, m, cb] w w' := by
  unfold acells at h
  have c0 := h.cell 0 rfl
  have c1 := h.cell 1 rfl
  have c3 := h.cell 3 rfl
  have hw0 : IntKind.i64.wrap (p : Int) = (p : Int) := IntWalk.i64_in _ (by omega)
  have hw1 : IntKind.i64.wrap ((p : Int) + 1) = (p : Int) + 1 := IntWalk.i64_in _ (by omega)
  have hw2 : IntKind.i64.wrap ((p : Int) + 2) = (p : Int) + 2 := IntWalk.i64_in _ (by omega)
  go_enter Tryz.func290, Tryz.ntmps290
  go_wp2_with fail
  go_region_held3 (fun w' => w'.cell? ⟨f, 0, none⟩ = some (.pointer (some ⟨m, 0, none⟩)) ∧ w'.cell? ⟨f, 1, none⟩ = some (.int .i64 (p : Int)) ∧ w'.cell? ⟨f, 3, none⟩ = some (.int .u64 (val : Int))) (go_keep)
    ((go_at_call 289; refine (store_any m cb C _ val _ (by exact hM) (by omega) (by omega)).mono ?_; rintro e w1 ⟨rfl, hM1, hF⟩; have h1 := h.drew.fr hF (by simp [hf]); have k0 := h1.cell 0 rfl; have k1 := h1.cell 1 rfl; have k3 := h1.cell 3 rfl; have j5 := h1.cell 5 rfl; have f5 := h1.free 5))
  have h2 := h1.set 5 (actV 294 f)
  have F1 := ((Fr.refl [f] w1).setCell (p := ⟨f, 5, none⟩) (actV 294 f) (.inl (by simp)))
  have hM4 := hM1.fr F1 (by simp; omega) (by simp; omega)
  have F := (hF.undrew.mono (O' := [f, m, cb]) (by simp)).trans F1 (by simp)
  go_wp2
  go_end0
  exact ⟨rfl, h2, hM4, F⟩


/-- A writing's last step: the line is free, in a later version. -/
theorem aopensAgain_any (f m cb : Nat) (C : List Nat) (p key val ver got : Nat) (nx : Value) (ok : Bool) (w : World) (h : Blk w f (acells m p key val ver nx false ok got) 321) (hM : MemAt w m cb C)
    (hf : f ≠ m ∧ f ≠ cb) (hC : C.length = 768) (hp : p < C.length) (hv : ver < 2 ^ 64) :
    Calls Tryz.prog 294 #[.pointer (some ⟨f, 0, none⟩)] w fun e w' => e = .returned (.tuple #[]) ∧
      Blk w' f (acells m p key val ver nx true ok got) 321 ∧ MemAt w' m cb (C.set p (verF ver)) ∧ Fr [f, m, cb] w w' := by
  have e1 := or2 _ hv
  clear hv
  unfold acells at h
  have c0 := h.cell 0 rfl
  have c1 := h.cell 1 rfl
  have c4 := h.cell 4 rfl
  have hw0 : IntKind.i64.wrap (p : Int) = (p : Int) := IntWalk.i64_in _ (by omega)
  have hw1 : IntKind.i64.wrap ((p : Int) + 1) = (p : Int) + 1 := IntWalk.i64_in _ (by omega)
  have hw2 : IntKind.i64.wrap ((p : Int) + 2) = (p : Int) + 2 := IntWalk.i64_in _ (by omega)
  go_enter Tryz.func294, Tryz.ntmps294
  go_wp2_with fail
  go_region_held3 (fun w' => w'.cell? ⟨f, 0, none⟩ = some (.pointer (some ⟨m, 0, none⟩)) ∧ w'.cell? ⟨f, 1, none⟩ = some (.int .i64 (p : Int)) ∧ w'.cell? ⟨f, 4, none⟩ = some (.int .u64 (ver : Int))) (go_keep)
    ((go_at_call 289; refine (store_any m cb C _ (verF ver) _ (by exact hM) (by omega) (by omega)).mono ?_; rintro e w1 ⟨rfl, hM1, hF⟩; have h1 := h.drew.fr hF (by simp [hf]); have k0 := h1.cell 0 rfl; have k1 := h1.cell 1 rfl; have k4 := h1.cell 4 rfl; have j6 := h1.cell 6 rfl; have f6 := h1.free 6))
  have h2 := h1.set 6 (.bool true)
  have F1 := ((Fr.refl [f] w1).setCell (p := ⟨f, 6, none⟩) (.bool true) (.inl (by simp)))
  have hM4 := hM1.fr F1 (by simp; omega) (by simp; omega)
  have F := (hF.undrew.mono (O' := [f, m, cb]) (by simp)).trans F1 (by simp)
  go_wp2
  go_end0
  exact ⟨rfl, h2, hM4, F⟩


end Go.Proofs.YtiojnjihbidbiaaGreat
/- Package cache, walked, its third part: a step of an act, at each of its states. -/
namespace Go.Proofs.YtiojnjihbidbiaaGreat
open Go.RowKit
set_option linter.unusedVariables false

theorem salooks_any (f m cb : Nat) (C : List Nat) (p key val ver got : Nat) (ok : Bool) (w : World) (h : Blk w f (acells m p key val ver (actV 275 f) false ok got) 321) (hM : MemAt w m cb C)
    (hf : f ≠ m ∧ f ≠ cb) (hC : C.length = 768) (hp : p < C.length) (hv : K0 C p < 2 ^ 64) (b : Bool) (hb : ((K0 C p : Int) % 4 != 2) = b) :
    Calls Tryz.prog 255 #[.pointer (some ⟨f, 0, none⟩)] w fun e w' => e = .returned (.bool b) ∧
      Blk w' f (acells m p key val (K0 C p) (actV 281 f) b ok got) 321 ∧ MemAt w' m cb C ∧ Fr [f, m] w w' := by
  have h' := h
  have C1 := @alooks_any f m cb C p key val ver got (actV 275 f) ok w h hM hf hp hv hC b hb
  have HC := Lib.hid C1
  clear C1
  unfold acells at h
  have c5 := h.cell 5 rfl
  have c6 := h.cell 6 rfl
  clear hM hf hC
  go_enter Tryz.func255, Tryz.ntmps255
  go_wp2_with fail
  refine HC.out.mono ?_
  rintro e w1 ⟨rfl, hB, hM1, hF⟩
  have hB' := hB
  unfold acells at hB
  have d6 := hB.cell 6 rfl
  go_wp2
  go_ret
  exact ⟨rfl, hB', hM1, hF⟩

theorem sacompares_any (f m cb : Nat) (C : List Nat) (p key val ver got : Nat) (ok : Bool) (w : World) (h : Blk w f (acells m p key val ver (actV 281 f) false ok got) 321) (hM : MemAt w m cb C)
    (hf : f ≠ m ∧ f ≠ cb) (hC : C.length = 768) (hp : p + 1 < C.length) (b : Bool) (hb : ((K0 C (p + 1) : Int) != (key : Int)) = b) :
    Calls Tryz.prog 255 #[.pointer (some ⟨f, 0, none⟩)] w fun e w' => e = .returned (.bool b) ∧
      Blk w' f (acells m p key val ver (actV 284 f) b ok got) 321 ∧ MemAt w' m cb C ∧ Fr [f, m] w w' := by
  have h' := h
  have C1 := @acompares_any f m cb C p key val ver got (actV 281 f) ok w h hM hf hC hp b hb
  have HC := Lib.hid C1
  clear C1
  unfold acells at h
  have c5 := h.cell 5 rfl
  have c6 := h.cell 6 rfl
  clear hM hf hC
  go_enter Tryz.func255, Tryz.ntmps255
  go_wp2_with fail
  refine HC.out.mono ?_
  rintro e w1 ⟨rfl, hB, hM1, hF⟩
  have hB' := hB
  unfold acells at hB
  have d6 := hB.cell 6 rfl
  go_wp2
  go_ret
  exact ⟨rfl, hB', hM1, hF⟩

theorem sareads_any (f m cb : Nat) (C : List Nat) (p key val ver got : Nat) (ok : Bool) (w : World) (h : Blk w f (acells m p key val ver (actV 284 f) false ok got) 321) (hM : MemAt w m cb C)
    (hf : f ≠ m ∧ f ≠ cb) (hC : C.length = 768) (hp : p + 2 < C.length) :
    Calls Tryz.prog 255 #[.pointer (some ⟨f, 0, none⟩)] w fun e w' => e = .returned (.bool false) ∧
      Blk w' f (acells m p key val ver (actV 288 f) false ok (K0 C (p + 2))) 321 ∧ MemAt w' m cb C ∧ Fr [f, m] w w' := by
  have h' := h
  have C1 := @areads_any f m cb C p key val ver got (actV 284 f) ok w h hM hf hC hp
  have HC := Lib.hid C1
  clear C1
  unfold acells at h
  have c5 := h.cell 5 rfl
  have c6 := h.cell 6 rfl
  clear hM hf hC
  go_enter Tryz.func255, Tryz.ntmps255
  go_wp2_with fail
  refine HC.out.mono ?_
  rintro e w1 ⟨rfl, hB, hM1, hF⟩
  have hB' := hB
  unfold acells at hB
  have d6 := hB.cell 6 rfl
  go_wp2
  go_ret
  exact ⟨rfl, hB', hM1, hF⟩

theorem satrusts_any (f m cb : Nat) (C : List Nat) (p key val ver got : Nat) (ok : Bool) (w : World) (h : Blk w f (acells m p key val ver (actV 288 f) false ok got) 321) (hM : MemAt w m cb C)
    (hf : f ≠ m ∧ f ≠ cb) (hC : C.length = 768) (hp : p < C.length) (hb : ((K0 C p : Int) == (ver : Int)) = true) :
    Calls Tryz.prog 255 #[.pointer (some ⟨f, 0, none⟩)] w fun e w' => e = .returned (.bool true) ∧
      Blk w' f (acells m p key val ver (actV 288 f) true true got) 321 ∧ MemAt w' m cb C ∧ Fr [f, m] w w' := by
  have h' := h
  have C1 := @atrusts_any f m cb C p key val ver got (actV 288 f) ok w h hM hf hC hp hb
  have HC := Lib.hid C1
  clear C1
  unfold acells at h
  have c5 := h.cell 5 rfl
  have c6 := h.cell 6 rfl
  clear hM hf hC
  go_enter Tryz.func255, Tryz.ntmps255
  go_wp2_with fail
  refine HC.out.mono ?_
  rintro e w1 ⟨rfl, hB, hM1, hF⟩
  have hB' := hB
  unfold acells at hB
  have d6 := hB.cell 6 rfl
  go_wp2
  go_ret
  exact ⟨rfl, hB', hM1, hF⟩

theorem saopens_any (f m cb : Nat) (C : List Nat) (p key val ver got : Nat) (ok : Bool) (w : World) (h : Blk w f (acells m p key val ver (actV 276 f) false ok got) 321) (hM : MemAt w m cb C)
    (hf : f ≠ m ∧ f ≠ cb) (hC : C.length = 768) (hp : p < C.length) (hv : K0 C p < 2 ^ 64) (he : K0 C p % 2 = 0) :
    Calls Tryz.prog 255 #[.pointer (some ⟨f, 0, none⟩)] w fun e w' => e = .returned (.bool false) ∧
      Blk w' f (acells m p key val (K0 C p) (actV 282 f) false ok got) 321 ∧ MemAt w' m cb C ∧ Fr [f, m] w w' := by
  have h' := h
  have C1 := @aopens_any f m cb C p key val ver got (actV 276 f) ok w h hM hf hC hp hv he
  have HC := Lib.hid C1
  clear C1
  unfold acells at h
  have c5 := h.cell 5 rfl
  have c6 := h.cell 6 rfl
  clear hM hf hC
  go_enter Tryz.func255, Tryz.ntmps255
  go_wp2_with fail
  refine HC.out.mono ?_
  rintro e w1 ⟨rfl, hB, hM1, hF⟩
  have hB' := hB
  unfold acells at hB
  have d6 := hB.cell 6 rfl
  go_wp2
  go_ret
  exact ⟨rfl, hB', hM1, hF⟩

theorem salocks_any (f m cb : Nat) (C : List Nat) (p key val ver got : Nat) (ok : Bool) (w : World) (h : Blk w f (acells m p key val ver (actV 282 f) false ok got) 321) (hM : MemAt w m cb C)
    (hf : f ≠ m ∧ f ≠ cb) (hC : C.length = 768) (hp : p < C.length) (hv : ver < 2 ^ 64) (he : ver % 2 = 0) (hver : K0 C p = ver) :
    Calls Tryz.prog 255 #[.pointer (some ⟨f, 0, none⟩)] w fun e w' => e = .returned (.bool false) ∧
      Blk w' f (acells m p key val ver (actV 285 f) false ok got) 321 ∧ MemAt w' m cb (C.set p (ver + 1)) ∧ Fr [f, m, cb] w w' := by
  have h' := h
  have C1 := @alocks_any f m cb C p key val ver got (actV 282 f) ok w h hM hf hC hp hv he hver
  have HC := Lib.hid C1
  clear C1
  unfold acells at h
  have c5 := h.cell 5 rfl
  have c6 := h.cell 6 rfl
  clear hM hf hC
  go_enter Tryz.func255, Tryz.ntmps255
  go_wp2_with fail
  refine HC.out.mono ?_
  rintro e w1 ⟨rfl, hB, hM1, hF⟩
  have hB' := hB
  unfold acells at hB
  have d6 := hB.cell 6 rfl
  go_wp2
  go_ret
  exact ⟨rfl, hB', hM1, hF⟩

theorem sakeys_any (f m cb : Nat) (C : List Nat) (p key val ver got : Nat) (ok : Bool) (w : World) (h : Blk w f (acells m p key val ver (actV 285 f) false ok got) 321) (hM : MemAt w m cb C)
    (hf : f ≠ m ∧ f ≠ cb) (hC : C.length = 768) (hp : p + 1 < C.length) :
    Calls Tryz.prog 255 #[.pointer (some ⟨f, 0, none⟩)] w fun e w' => e = .returned (.bool false) ∧
      Blk w' f (acells m p key val ver (actV 290 f) false ok got) 321 ∧ MemAt w' m cb (C.set (p + 1) key) ∧ Fr [f, m, cb] w w' := by
  have h' := h
  have C1 := @akeys_any f m cb C p key val ver got (actV 285 f) ok w h hM hf hC hp
  have HC := Lib.hid C1
  clear C1
  unfold acells at h
  have c5 := h.cell 5 rfl
  have c6 := h.cell 6 rfl
  clear hM hf hC
  go_enter Tryz.func255, Tryz.ntmps255
  go_wp2_with fail
  refine HC.out.mono ?_
  rintro e w1 ⟨rfl, hB, hM1, hF⟩
  have hB' := hB
  unfold acells at hB
  have d6 := hB.cell 6 rfl
  go_wp2
  go_ret
  exact ⟨rfl, hB', hM1, hF⟩

theorem savals_any (f m cb : Nat) (C : List Nat) (p key val ver got : Nat) (ok : Bool) (w : World) (h : Blk w f (acells m p key val ver (actV 290 f) false ok got) 321) (hM : MemAt w m cb C)
    (hf : f ≠ m ∧ f ≠ cb) (hC : C.length = 768) (hp : p + 2 < C.length) :
    Calls Tryz.prog 255 #[.pointer (some ⟨f, 0, none⟩)] w fun e w' => e = .returned (.bool false) ∧
      Blk w' f (acells m p key val ver (actV 294 f) false ok got) 321 ∧ MemAt w' m cb (C.set (p + 2) val) ∧ Fr [f, m, cb] w w' := by
  have h' := h
  have C1 := @avals_any f m cb C p key val ver got (actV 290 f) ok w h hM hf hC hp
  have HC := Lib.hid C1
  clear C1
  unfold acells at h
  have c5 := h.cell 5 rfl
  have c6 := h.cell 6 rfl
  clear hM hf hC
  go_enter Tryz.func255, Tryz.ntmps255
  go_wp2_with fail
  refine HC.out.mono ?_
  rintro e w1 ⟨rfl, hB, hM1, hF⟩
  have hB' := hB
  unfold acells at hB
  have d6 := hB.cell 6 rfl
  go_wp2
  go_ret
  exact ⟨rfl, hB', hM1, hF⟩

theorem saopensAgain_any (f m cb : Nat) (C : List Nat) (p key val ver got : Nat) (ok : Bool) (w : World) (h : Blk w f (acells m p key val ver (actV 294 f) false ok got) 321) (hM : MemAt w m cb C)
    (hf : f ≠ m ∧ f ≠ cb) (hC : C.length = 768) (hp : p < C.length) (hv : ver < 2 ^ 64) :
    Calls Tryz.prog 255 #[.pointer (some ⟨f, 0, none⟩)] w fun e w' => e = .returned (.bool true) ∧
      Blk w' f (acells m p key val ver (actV 294 f) true ok got) 321 ∧ MemAt w' m cb (C.set p (verF ver)) ∧ Fr [f, m, cb] w w' := by
  have h' := h
  have C1 := @aopensAgain_any f m cb C p key val ver got (actV 294 f) ok w h hM hf hC hp hv
  have HC := Lib.hid C1
  clear C1
  unfold acells at h
  have c5 := h.cell 5 rfl
  have c6 := h.cell 6 rfl
  clear hM hf hC
  go_enter Tryz.func255, Tryz.ntmps255
  go_wp2_with fail
  refine HC.out.mono ?_
  rintro e w1 ⟨rfl, hB, hM1, hF⟩
  have hB' := hB
  unfold acells at hB
  have d6 := hB.cell 6 rfl
  go_wp2
  go_ret
  exact ⟨rfl, hB', hM1, hF⟩

end Go.Proofs.YtiojnjihbidbiaaGreat
/- Package cache, walked, its fourth part; and the store's Recall and Note: a look-up and a writing driven to their ends. -/
namespace Go.Proofs.YtiojnjihbidbiaaGreat
open Go.RowKit
attribute [local go_sem ↓] Go.wp_at_zero Go.wp_at_succ
set_option linter.unusedVariables false

theorem line_any (c m cb : Nat) (C : List Nat) (key : Nat) (w : World) (hC : CacheAt w c m cb C) :
    Calls Tryz.prog 274 #[.pointer (some ⟨c, 0, none⟩), .int .u64 (key : Int)] w fun e w' => e = .returned (.int .i64 ((3 * homeF 256 key : Nat) : Int)) ∧ ∃ n, w' = w.drewN n := by
  obtain ⟨hc, hM, hne, hne2, hl⟩ := hC
  have c1 := hc.cell 1 rfl
  have c2 := hc.cell 2 rfl
  have hlt := homeF_lt (show 0 < 256 by omega) key
  have e1 : IntKind.i64.wrap (3 * ((homeF 256 key : Nat) : Int)) = 3 * ((homeF 256 key : Nat) : Int) := IntWalk.i64_in _ (by omega)
  have e2 : IntKind.i64.wrap (0 + 3 * ((homeF 256 key : Nat) : Int)) = 0 + 3 * ((homeF 256 key : Nat) : Int) := IntWalk.i64_in _ (by omega)
  go_enter Tryz.func274, Tryz.ntmps274
  go_wp2_with fail
  go_quiet ((go_at_call 216; exact Calls.quiet_of_same ((home_any key _ _ (by omega) (by omega)).mono fun e w' ⟨h1, h2⟩ => ⟨h1, h2.symm⟩)))
  go_wp2
  go_ret
  exact ⟨ret_int (by simp), ⟨_, rfl⟩⟩

theorem line_fr (c m cb : Nat) (C : List Nat) (key : Nat) (w : World) (hC : CacheAt w c m cb C) :
    Calls Tryz.prog 274 #[.pointer (some ⟨c, 0, none⟩), .int .u64 (key : Int)] w fun e w' => e = .returned (.int .i64 ((3 * homeF 256 key : Nat) : Int)) ∧ CacheAt w' c m cb C ∧ Fr [] w w' := by
  refine (line_any c m cb C key w hC).mono ?_
  rintro e w' ⟨rfl, n, rfl⟩
  exact ⟨rfl, hC.fr ((Fr.refl [] w).drewN n) (by simp) (by simp) (by simp), (Fr.refl [] w).drewN n⟩

theorem get_any (c m cb : Nat) (C : List Nat) (key : Nat) (w : World) (hC : CacheAt w c m cb C) :
    Calls Tryz.prog 253 #[.pointer (some ⟨c, 0, none⟩), .int .u64 (key : Int)] w fun e w' => ∃ f, e = .returned (.pointer (some ⟨f, 0, none⟩)) ∧
      Blk w' f (acells m (3 * homeF 256 key) key 0 0 (actV 275 f) false false 0) 321 ∧ CacheAt w' c m cb C ∧ Fr [] w w' ∧ w.heap.size ≤ f := by
  have hCC := hC
  obtain ⟨hc, hM, hne, hne2, hl⟩ := hC
  have c0 := hc.cell 0 rfl
  go_enter Tryz.func253, Tryz.ntmps253
  go_wp2_with fail
  go_region_held3 (fun w' => w'.cell? ⟨c, 0, none⟩ = some (.pointer (some ⟨m, 0, none⟩))) (go_keep)
    ((go_at_call 274; refine (line_fr c m cb C key _ (by exact hCC)).mono ?_; rintro e w1 ⟨rfl, hC1, hF⟩; have k0 := hC1.1.cell 0 rfl))
  go_wp2
  go_ret
  refine ⟨_, rfl, Blk.new w1 _ _, ?_, ?_, hF.size⟩
  · exact CacheAt.fr hC1 ((Fr.refl [] w1).alloc _) (by simp) (by simp) (by simp)
  · exact hF.undrew.alloc _

theorem put_any (c m cb : Nat) (C : List Nat) (key val : Nat) (w : World) (hC : CacheAt w c m cb C) :
    Calls Tryz.prog 258 #[.pointer (some ⟨c, 0, none⟩), .int .u64 (key : Int), .int .u64 (val : Int)] w fun e w' => ∃ f, e = .returned (.pointer (some ⟨f, 0, none⟩)) ∧
      Blk w' f (acells m (3 * homeF 256 key) key val 0 (actV 276 f) false false 0) 321 ∧ CacheAt w' c m cb C ∧ Fr [] w w' ∧ w.heap.size ≤ f := by
  have hCC := hC
  obtain ⟨hc, hM, hne, hne2, hl⟩ := hC
  have c0 := hc.cell 0 rfl
  go_enter Tryz.func258, Tryz.ntmps258
  go_wp2_with fail
  go_region_held3 (fun w' => w'.cell? ⟨c, 0, none⟩ = some (.pointer (some ⟨m, 0, none⟩))) (go_keep)
    ((go_at_call 274; refine (line_fr c m cb C key _ (by exact hCC)).mono ?_; rintro e w1 ⟨rfl, hC1, hF⟩; have k0 := hC1.1.cell 0 rfl))
  go_wp2
  go_ret
  refine ⟨_, rfl, Blk.new w1 _ _, ?_, ?_, hF.size⟩
  · exact CacheAt.fr hC1 ((Fr.refl [] w1).alloc _) (by simp) (by simp) (by simp)
  · exact hF.undrew.alloc _

theorem got_ok (f m p key val ver got : Nat) (nx : Value) (w : World) (h : Blk w f (acells m p key val ver nx true true got) 321) :
    Calls Tryz.prog 256 #[.pointer (some ⟨f, 0, none⟩)] w fun e w' => e = .returned (.tuple #[.int .u64 (got : Int), .bool true]) ∧ w = w' := by
  unfold acells at h
  have c6 := h.cell 6 rfl
  have c7 := h.cell 7 rfl
  have c8 := h.cell 8 rfl
  go_enter Tryz.func256, Tryz.ntmps256
  go_wp2
  go_ret2
  exact ⟨rfl, rfl⟩

theorem got_not (f m p key val ver got : Nat) (nx : Value) (w : World) (h : Blk w f (acells m p key val ver nx true false got) 321) :
    Calls Tryz.prog 256 #[.pointer (some ⟨f, 0, none⟩)] w fun e w' => e = .returned (.tuple #[.int .u64 0, .bool false]) ∧ w = w' := by
  unfold acells at h
  have c6 := h.cell 6 rfl
  have c7 := h.cell 7 rfl
  have c8 := h.cell 8 rfl
  go_enter Tryz.func256, Tryz.ntmps256
  go_wp2
  go_ret2
  exact ⟨rfl, rfl⟩

theorem Fr.of (O : List Nat) {w w' : World} (h : Fr [] w w') : Fr O w w' := h.mono (by simp)

/-- The store's cache is off: nothing is recalled. -/
theorem recall_off (s : Nat) (op mk a b c : Int) (w : World) (c7 : w.cell? ⟨s, 7, none⟩ = some (.bool true)) :
    Calls Tryz.prog 209 #[.pointer (some ⟨s, 0, none⟩), .int .u8 op, .int .u8 mk, .int .u32 a, .int .u32 b, .int .u32 c] w fun e w' => e = .returned (.tuple #[.int .u32 0, .bool false]) ∧ w = w' := by
  go_enter Tryz.func209, Tryz.ntmps209
  go_wp2
  go_ret2
  exact ⟨rfl, rfl⟩

end Go.Proofs.YtiojnjihbidbiaaGreat
/- The store's Recall, walked: a look-up driven to its end. -/
namespace Go.Proofs.YtiojnjihbidbiaaGreat
open Go.RowKit
attribute [local go_sem ↓] Go.wp_at_zero Go.wp_at_succ
set_option linter.unusedVariables false

set_option maxHeartbeats 2000000 in
/-- What is recalled stands in the key's line. -/
theorem recall_on (s cc m cb : Nat) (C : List Nat) (op mk a b c : Nat) (w : World) (c7 : w.cell? ⟨s, 7, none⟩ = some (.bool false)) (c6 : w.cell? ⟨s, 6, none⟩ = some (.pointer (some ⟨cc, 0, none⟩))) (hC : CacheAt w cc m cb C)
    (ho : op < 256) (hm : mk < 256) (ha : a < 65536) (hb : b < 65536) (hc : c < 65536) (hv : K0 C (3 * homeF 256 (Bdd.wordN op mk a b c)) < 2 ^ 64)
    (hval : K0 C (3 * homeF 256 (Bdd.wordN op mk a b c)) % 4 = 2 → K0 C (3 * homeF 256 (Bdd.wordN op mk a b c) + 1) = Bdd.wordN op mk a b c → K0 C (3 * homeF 256 (Bdd.wordN op mk a b c) + 2) < 2 ^ 32) :
    Calls Tryz.prog 209 #[.pointer (some ⟨s, 0, none⟩), .int .u8 (op : Int), .int .u8 (mk : Int), .int .u32 (a : Int), .int .u32 (b : Int), .int .u32 (c : Int)] w fun e w' => CacheAt w' cc m cb C ∧ Fr [m] w w' ∧
      (e = .returned (.tuple #[.int .u32 0, .bool false]) ∨
       (e = .returned (.tuple #[.int .u32 (K0 C (3 * homeF 256 (Bdd.wordN op mk a b c) + 2) : Nat), .bool true]) ∧ K0 C (3 * homeF 256 (Bdd.wordN op mk a b c)) % 4 = 2 ∧ K0 C (3 * homeF 256 (Bdd.wordN op mk a b c) + 1) = Bdd.wordN op mk a b c)) := by
  have hkl := homeF_lt (show 0 < 256 by omega) (Bdd.wordN op mk a b c)
  go_enter Tryz.func209, Tryz.ntmps209
  go_wp2_with fail
  go_region_held3 (fun w' => w'.cell? ⟨s, 6, none⟩ = some (.pointer (some ⟨cc, 0, none⟩))) (go_keep)
    (first
     | (go_at_call 254; refine (word_any op mk a b c _ ho hm ha hb hc).mono ?_; rintro e w1 ⟨rfl, rfl⟩)
     | (go_at_call 253; refine (get_any cc m cb C (Bdd.wordN op mk a b c) _ (by exact hC)).mono ?_; rintro e w1 ⟨f, rfl, hB, hC1, hF, hf⟩; have k6 := hF.cell (by exact c6) (by simp)))
  replace hf : w.heap.size ≤ f := hf
  have hne := hC1.2.2.1
  have hlt := hC1.lt
  have hltw := hC.lt
  have hM1 := hC1.2.1
  have hl := hC1.2.2.2.2
  have hc1 := hC1.1
  have hff : f ≠ m ∧ f ≠ cb := by omega
  have hfc : f ≠ cc := by omega
  have hcm : cc ≠ m ∧ cc ≠ cb := ⟨hC1.2.2.1, hC1.2.2.2.1⟩
  have HV := Lib.hid hv
  have HVAL := Lib.hid hval
  clear hv hval
  by_cases h1 : K0 C (3 * homeF 256 (Bdd.wordN op mk a b c)) % 4 = 2
  · have H1 := Lib.hid h1
    clear h1
    by_cases h2 : K0 C (3 * homeF 256 (Bdd.wordN op mk a b c) + 1) = Bdd.wordN op mk a b c
    · have H2 := Lib.hid h2
      clear h2
      have hv32 := HVAL.out H1.out H2.out
      have hw32 : IntKind.u32.wrap (K0 C (3 * homeF 256 (Bdd.wordN op mk a b c) + 2) : Int) = (K0 C (3 * homeF 256 (Bdd.wordN op mk a b c) + 2) : Int) := by rw [IntKind.wrap_u32]; omega
      go_wp2_with fail
      refine wp_loop_rounds 5 ?_
      rw [rounds_succ]
      go_wp2_with fail
      refine (salooks_any f m cb C _ _ _ _ _ _ _ hB hM1 hff hl (by omega) HV.out false (by have := H1.out; simp; omega)).mono ?_
      rintro e w2 ⟨rfl, hB2, hM2, hF2⟩
      go_wp2_with fail
      rw [rounds_succ]
      go_wp2_with fail
      refine (sacompares_any f m cb C _ _ _ _ _ _ _ hB2 hM2 hff hl (by omega) false (by rw [H2.out]; simp)).mono ?_
      rintro e w3 ⟨rfl, hB3, hM3, hF3⟩
      go_wp2_with fail
      rw [rounds_succ]
      go_wp2_with fail
      refine (sareads_any f m cb C _ _ _ _ _ _ _ hB3 hM3 hff hl (by omega)).mono ?_
      rintro e w4 ⟨rfl, hB4, hM4, hF4⟩
      go_wp2_with fail
      rw [rounds_succ]
      go_wp2_with fail
      refine (satrusts_any f m cb C _ _ _ _ _ _ _ hB4 hM4 hff hl (by omega) (by simp)).mono ?_
      rintro e w5 ⟨rfl, hB5, hM5, hF5⟩
      go_wp2_with fail
      refine (got_ok f _ _ _ _ _ _ _ _ hB5).mono ?_
      rintro e w6 ⟨rfl, rfl⟩
      go_wp2
      go_ret2
      have F := ((((hF.undrew.of [m]).trans hF2 (by simp; omega)).trans hF3 (by simp; omega)).trans hF4 (by simp; omega)).trans hF5 (by simp; omega)
      have FF := ((hF2.trans hF3 (by simp)).trans hF4 (by simp)).trans hF5 (by simp)
      exact ⟨⟨hc1.fr FF (by simp; omega), hM5, hcm.1, hcm.2, hl⟩, F, .inr ⟨rfl, H1.out, H2.out⟩⟩
    · go_wp2_with fail
      refine wp_loop_rounds 3 ?_
      rw [rounds_succ]
      go_wp2_with fail
      refine (salooks_any f m cb C _ _ _ _ _ _ _ hB hM1 hff hl (by omega) HV.out false (by have := H1.out; simp; omega)).mono ?_
      rintro e w2 ⟨rfl, hB2, hM2, hF2⟩
      go_wp2_with fail
      rw [rounds_succ]
      go_wp2_with fail
      refine (sacompares_any f m cb C _ _ _ _ _ _ _ hB2 hM2 hff hl (by omega) true (by simp; omega)).mono ?_
      rintro e w3 ⟨rfl, hB3, hM3, hF3⟩
      go_wp2_with fail
      refine (got_not f _ _ _ _ _ _ _ _ hB3).mono ?_
      rintro e w6 ⟨rfl, rfl⟩
      go_wp2
      go_ret2
      have F := ((hF.undrew.of [m]).trans hF2 (by simp; omega)).trans hF3 (by simp; omega)
      have FF := hF2.trans hF3 (by simp)
      exact ⟨⟨hc1.fr FF (by simp; omega), hM3, hcm.1, hcm.2, hl⟩, F, .inl rfl⟩
  · have H1 := Lib.hid h1
    clear h1
    go_wp2_with fail
    refine wp_loop_rounds 2 ?_
    rw [rounds_succ]
    go_wp2_with fail
    refine (salooks_any f m cb C _ _ _ _ _ _ _ hB hM1 hff hl (by omega) HV.out true (by have := H1.out; simp; omega)).mono ?_
    rintro e w2 ⟨rfl, hB2, hM2, hF2⟩
    go_wp2_with fail
    refine (got_not f _ _ _ _ _ _ _ _ hB2).mono ?_
    rintro e w6 ⟨rfl, rfl⟩
    go_wp2
    go_ret2
    exact ⟨⟨hc1.fr hF2 (by simp; omega), hM2, hcm.1, hcm.2, hl⟩, (hF.undrew.of [m]).trans hF2 (by simp; omega), .inl rfl⟩

end Go.Proofs.YtiojnjihbidbiaaGreat
/- The store's Note, walked: a writing driven to its end. -/
namespace Go.Proofs.YtiojnjihbidbiaaGreat
open Go.RowKit
attribute [local go_sem ↓] Go.wp_at_zero Go.wp_at_succ
set_option linter.unusedVariables false

theorem note_off (s : Nat) (op mk a b c v : Int) (w : World) (c7 : w.cell? ⟨s, 7, none⟩ = some (.bool true)) :
    Calls Tryz.prog 211 #[.pointer (some ⟨s, 0, none⟩), .int .u8 op, .int .u8 mk, .int .u32 a, .int .u32 b, .int .u32 c, .int .u32 v] w fun e w' => e = .returned (.tuple #[]) ∧ w = w' := by
  go_enter Tryz.func211, Tryz.ntmps211
  go_wp2
  refine bodyPost_ret (results_none rfl _ _ _) rfl ?_
  exact ⟨rfl, rfl⟩

/-- The cells behind a writing: the line is locked, written, free in a later version. -/
def noted (C : List Nat) (p k v : Nat) : List Nat := (((C.set p (K0 C p + 1)).set (p + 1) k).set (p + 2) v).set p (verF (K0 C p))

theorem K0_set (K : List Nat) (s t v : Nat) (hs : s < K.length) : K0 (K.set s v) t = if t = s then v else K0 K t := Bdd.getD_set K s t v hs

theorem noted_eq {C : List Nat} {l k v : Nat} (hl : 3 * l + 2 < C.length) : noted C (3 * l) k v = Bdd.putLine C l (verF (K0 C (3 * l))) k v := by
  unfold noted Bdd.putLine
  apply List.ext_getElem?
  intro i
  simp only [List.getElem?_set, List.length_set]
  by_cases h0 : 3 * l = i
  · simp [h0]
  · by_cases h1 : 3 * l + 1 = i
    · subst h1; simp
    · by_cases h2 : 3 * l + 2 = i
      · subst h2; simp
      · simp [h0, h1, h2]

set_option maxHeartbeats 2000000 in
theorem note_on (s cc m cb : Nat) (C : List Nat) (op mk a b c v : Nat) (w : World) (c7 : w.cell? ⟨s, 7, none⟩ = some (.bool false)) (c6 : w.cell? ⟨s, 6, none⟩ = some (.pointer (some ⟨cc, 0, none⟩))) (hC : CacheAt w cc m cb C)
    (ho : op < 256) (hm : mk < 256) (ha : a < 65536) (hb : b < 65536) (hc : c < 65536) (hvv : v < 65536) (hv : K0 C (3 * homeF 256 (Bdd.wordN op mk a b c)) < 2 ^ 64) (he : K0 C (3 * homeF 256 (Bdd.wordN op mk a b c)) % 2 = 0) :
    Calls Tryz.prog 211 #[.pointer (some ⟨s, 0, none⟩), .int .u8 (op : Int), .int .u8 (mk : Int), .int .u32 (a : Int), .int .u32 (b : Int), .int .u32 (c : Int), .int .u32 (v : Int)] w fun e w' =>
      e = .returned (.tuple #[]) ∧ CacheAt w' cc m cb (noted C (3 * homeF 256 (Bdd.wordN op mk a b c)) (Bdd.wordN op mk a b c) v) ∧ Fr [m, cb] w w' := by
  have hkl := homeF_lt (show 0 < 256 by omega) (Bdd.wordN op mk a b c)
  have hwv : IntKind.u64.wrap (v : Int) = (v : Int) := by rw [IntKind.wrap_u64]; omega
  have HV := Lib.hid hv
  have HE := Lib.hid he
  clear hv he
  go_enter Tryz.func211, Tryz.ntmps211
  go_wp2_with fail
  go_region_held3 (fun w' => w'.cell? ⟨s, 6, none⟩ = some (.pointer (some ⟨cc, 0, none⟩))) (go_keep)
    (first
     | (go_at_call 254; refine (word_any op mk a b c _ ho hm ha hb hc).mono ?_; rintro e w1 ⟨rfl, rfl⟩)
     | (go_at_call 258; refine (put_any cc m cb C (Bdd.wordN op mk a b c) v _ (by exact hC)).mono ?_; rintro e w1 ⟨f, rfl, hB, hC1, hF, hf⟩; have k6 := hF.cell (by exact c6) (by simp)))
  replace hf : w.heap.size ≤ f := hf
  have hlt := hC1.lt
  have hltw := hC.lt
  have hM1 := hC1.2.1
  have hl := hC1.2.2.2.2
  have hc1 := hC1.1
  have hff : f ≠ m ∧ f ≠ cb := by omega
  have hcm : cc ≠ m ∧ cc ≠ cb := ⟨hC1.2.2.1, hC1.2.2.2.1⟩
  have len1 : (C.set (3 * homeF 256 (Bdd.wordN op mk a b c)) (K0 C (3 * homeF 256 (Bdd.wordN op mk a b c)) + 1)).length = 768 := by simp [hl]
  have len2 : ((C.set (3 * homeF 256 (Bdd.wordN op mk a b c)) (K0 C (3 * homeF 256 (Bdd.wordN op mk a b c)) + 1)).set (3 * homeF 256 (Bdd.wordN op mk a b c) + 1) (Bdd.wordN op mk a b c)).length = 768 := by simp [hl]
  have len3 : (((C.set (3 * homeF 256 (Bdd.wordN op mk a b c)) (K0 C (3 * homeF 256 (Bdd.wordN op mk a b c)) + 1)).set (3 * homeF 256 (Bdd.wordN op mk a b c) + 1) (Bdd.wordN op mk a b c)).set (3 * homeF 256 (Bdd.wordN op mk a b c) + 2) v).length = 768 := by simp [hl]
  have L1 := Lib.hid len1
  have L2 := Lib.hid len2
  have L3 := Lib.hid len3
  clear len1 len2 len3
  go_wp2_with fail
  refine wp_loop_rounds 6 ?_
  rw [rounds_succ]
  go_wp2_with fail
  refine (saopens_any f m cb C _ _ _ _ _ _ _ hB hM1 hff hl (by omega) HV.out HE.out).mono ?_
  rintro e w2 ⟨rfl, hB2, hM2, hF2⟩
  go_wp2_with fail
  rw [rounds_succ]
  go_wp2_with fail
  refine (salocks_any f m cb C _ _ _ _ _ _ _ hB2 hM2 hff hl (by omega) HV.out HE.out rfl).mono ?_
  rintro e w3 ⟨rfl, hB3, hM3, hF3⟩
  go_wp2_with fail
  rw [rounds_succ]
  go_wp2_with fail
  refine (sakeys_any f m cb _ _ _ _ _ _ _ _ hB3 hM3 hff L1.out (by rw [L1.out]; omega)).mono ?_
  rintro e w4 ⟨rfl, hB4, hM4, hF4⟩
  go_wp2_with fail
  rw [rounds_succ]
  go_wp2_with fail
  refine (savals_any f m cb _ _ _ _ _ _ _ _ hB4 hM4 hff L2.out (by rw [L2.out]; omega)).mono ?_
  rintro e w5 ⟨rfl, hB5, hM5, hF5⟩
  go_wp2_with fail
  rw [rounds_succ]
  go_wp2_with fail
  refine (saopensAgain_any f m cb _ _ _ _ _ _ _ _ hB5 hM5 hff L3.out (by rw [L3.out]; omega) HV.out).mono ?_
  rintro e w6 ⟨rfl, hB6, hM6, hF6⟩
  go_wp2
  go_end0
  have FF := ((((hF2.mono (O' := [f, m, cb]) (by simp)).trans hF3 (by simp)).trans hF4 (by simp)).trans hF5 (by simp)).trans hF6 (by simp)
  have F := (hF.undrew.of [m, cb]).trans FF (by simp; omega)
  refine ⟨rfl, ⟨hc1.fr FF (by simp; omega), hM6, hcm.1, hcm.2, by unfold noted; simp [hl]⟩, F⟩

end Go.Proofs.YtiojnjihbidbiaaGreat

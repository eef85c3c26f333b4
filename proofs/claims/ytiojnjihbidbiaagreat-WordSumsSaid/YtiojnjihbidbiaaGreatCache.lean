/- Package cache, walked, its first part: the steps of a look-up. -/
import Derived.Test.YtiojnjihbidbiaaGreatUtab3
namespace Go.Proofs.YtiojnjihbidbiaaGreat
open Go.RowKit
attribute [local go_sem ↓] Go.wp_at_zero Go.wp_at_succ
set_option linter.unusedVariables false

/-- c is a cache of 256 lines over the whole memory m. -/
def CacheAt (w : World) (c m cb : Nat) (C : List Nat) : Prop :=
  Blk w c #[.pointer (some ⟨m, 0, none⟩), .int .i64 0, .int .i64 256] 208 ∧ MemAt w m cb C ∧ c ≠ m ∧ c ≠ cb ∧ C.length = 768

theorem CacheAt.fr {O : List Nat} {w w' : World} {t m cb : Nat} {K : List Nat} (h : CacheAt w t m cb K) (f : Fr O w w') (h0 : t ∉ O) (h1 : m ∉ O) (h2 : cb ∉ O) : CacheAt w' t m cb K :=
  ⟨h.1.fr f h0, h.2.1.fr f h1 h2, h.2.2⟩
theorem CacheAt.lt {w : World} {t m cb : Nat} {K : List Nat} (h : CacheAt w t m cb K) : t < w.heap.size ∧ m < w.heap.size ∧ cb < w.heap.size := ⟨h.1.lt, h.2.1.lt⟩

/-- An act's cells. -/
def acells (m at_ key val ver : Nat) (next : Value) (done ok : Bool) (got : Nat) : Array Value :=
  #[.pointer (some ⟨m, 0, none⟩), .int .i64 (at_ : Int), .int .u64 (key : Int), .int .u64 (val : Int), .int .u64 (ver : Int), next, .bool done, .bool ok, .int .u64 (got : Int)]

abbrev actV (k f : Nat) : Value := .func (.func k) #[.pointer (some ⟨f, 0, none⟩)] #[]

theorem and3 (v : Nat) (h : v < 2 ^ 64) : bits BinOp.and IntKind.u64 (v : Int) 3 = (v : Int) % 4 := by
  have := u64_and_nat v 3 (by omega) (by omega)
  rw [show ((3 : Nat) : Int) = 3 from rfl] at this
  rw [this, show (3 : Nat) = 2 ^ 2 - 1 from rfl, Nat.and_two_pow_sub_one_eq_mod]
  rfl
theorem and1 (v : Nat) (h : v < 2 ^ 64) : bits BinOp.and IntKind.u64 (v : Int) 1 = (v : Int) % 2 := by
  have := u64_and_nat v 1 (by omega) (by omega)
  rw [show ((1 : Nat) : Int) = 1 from rfl] at this
  rw [this, show (1 : Nat) = 2 ^ 1 - 1 from rfl, Nat.and_two_pow_sub_one_eq_mod]
  rfl

/-- A look-up's first step: the line's version. -/
theorem alooks_any (f m cb : Nat) (C : List Nat) (p key val ver got : Nat) (nx : Value) (ok : Bool) (w : World) (h : Blk w f (acells m p key val ver nx false ok got) 321) (hM : MemAt w m cb C)
    (hf : f ≠ m ∧ f ≠ cb) (hp : p < C.length) (hv : K0 C p < 2 ^ 64) (hC : C.length = 768) (b : Bool) (hb : ((K0 C p : Int) % 4 != 2) = b) :
    Calls Tryz.prog 275 #[.pointer (some ⟨f, 0, none⟩)] w fun e w' => e = .returned (.tuple #[]) ∧
      Blk w' f (acells m p key val (K0 C p) (actV 281 f) b ok got) 321 ∧ MemAt w' m cb C ∧ Fr [f, m] w w' := by
  have e3 := and3 _ hv
  clear hv
  unfold acells at h
  have c0 := h.cell 0 rfl
  have c1 := h.cell 1 rfl
  have hw : IntKind.i64.wrap (p : Int) = (p : Int) := IntWalk.i64_in _ (by omega)
  go_enter Tryz.func275, Tryz.ntmps275
  go_wp2_with fail
  go_region_held3 (fun w' => w'.cell? ⟨f, 0, none⟩ = some (.pointer (some ⟨m, 0, none⟩)) ∧ w'.cell? ⟨f, 1, none⟩ = some (.int .i64 (p : Int))) (go_keep)
    ((go_at_call 177; refine (load_any m cb C _ _ (by exact hM) (by omega) (by omega)).mono ?_; rintro e w1 ⟨rfl, hM1, hF⟩; have h1 := h.drew.fr hF (by simp [hf]); have k0 := h1.cell 0 rfl; have k1 := h1.cell 1 rfl; have k4 := h1.cell 4 rfl; have f4 := h1.free 4; have h2 := h1.set 4 (.int .u64 (K0 C p : Int)); have g0 := h2.cell 0 rfl; have g1 := h2.cell 1 rfl))
  have k5 := h2.cell 5 rfl
  have f5 := h2.free 5
  have h3 := h2.set 5 (actV 281 f)
  have k6 := h3.cell 6 rfl
  have k4' := h3.cell 4 rfl
  have f6 := h3.free 6
  have h4 := h3.set 6 (.bool b)
  have F := (((hF.undrew.mono (O' := [f, m]) (by simp)).setCell (p := ⟨f, 4, none⟩) (.int .u64 (K0 C p : Int)) (.inl (by simp))).setCell (p := ⟨f, 5, none⟩) (actV 281 f) (.inl (by simp))).setCell (p := ⟨f, 6, none⟩) (.bool b) (.inl (by simp))
  have F1 := (((Fr.refl [f] w1).setCell (p := ⟨f, 4, none⟩) (.int .u64 (K0 C p : Int)) (.inl (by simp))).setCell (p := ⟨f, 5, none⟩) (actV 281 f) (.inl (by simp))).setCell (p := ⟨f, 6, none⟩) (.bool b) (.inl (by simp))
  have hM4 := hM1.fr F1 (by simp; omega) (by simp; omega)
  clear c0 c1
  go_wp2
  go_end0
  exact ⟨rfl, h4, hM4, F⟩
end Go.Proofs.YtiojnjihbidbiaaGreat
